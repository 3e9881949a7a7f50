/- A row of numbers that the caller made: read, and copied with one number more. -/
import Derived.Test.YtnjneljlphilnaaMem
import Derived.Test.YtnjneljlphilnaaInts
import Derived.Test.YtnjneljlphilnaaChecked
import Derived.OwnWalk
import Derived.Laws.AppendOwn
import Derived.Laws.AppendOwnNone
import Derived.WalkKit
namespace Go.Proofs.Ytnjneljlphilnaa
open Go.RowKit
def nums (xs : List Nat) : List Value := xs.map fun (x : Nat) => Value.int .u64 x
/-- A row of numbers of the caller's own. -/
def Row (w : World) (base : Nat) (v : Value) (xs : List Nat) : Prop := w.ownsRow base 22 1 v xs.length (nums xs)
theorem Row.nil (w : World) (base : Nat) : Row w base (.slice none 0 0) [] := World.ownsRow_nil w base 22 1
theorem Row.up {w : World} {base : Nat} {v : Value} {xs : List Nat} (h : Row w base v xs) {b : Nat} (hb : b ≤ base) : Row w b v xs := by
  refine ⟨h.1, ?_⟩
  rcases h.2 with hn | ⟨g, cap, cur, h1, h2, h3⟩
  · exact .inl hn
  · exact .inr ⟨g, cap, cur, h1, Nat.le_trans hb h2, h3⟩
theorem Row.below {w w' : World} {base : Nat} {v : Value} {xs : List Nat} (h : Row w base v xs) (hb : Below w.heap.size w w') : Row w' base v xs := by
  refine ⟨h.1, ?_⟩
  rcases h.2 with hn | ⟨g, cap, cur, h1, h2, h3, h4⟩
  · exact .inl hn
  · exact .inr ⟨g, cap, cur, h1, h2, (hb.block g (Array.getElem?_eq_some_iff.1 h3).1).trans h3, h4⟩
theorem Row.grown {w w' : World} {base g : Nat} {v : Value} {xs : List Nat} (h : Row w base v xs) (hb : w.grownBy w' (some g)) (hg : g < base) : Row w' base v xs := by
  refine World.ownsRow.kept h hb (.inr fun e => ?_)
  have := (World.ownsRow.lt h g e).1
  omega
theorem Row.store {w : World} {base g i : Nat} {v : Value} {xs : List Nat} (h : Row w base v xs) (hg : g < base) (u : Value) : Row (w.setCell ⟨g, i, none⟩ u) base v xs := h.grown (turn_store (turn_refl w _) i u) hg
theorem Row.draws {w : World} {base : Nat} {v : Value} {xs : List Nat} (h : Row w base v xs) (m : Nat) : Row (w.drewN m) base v xs := h
theorem Row.alloc {w : World} {base : Nat} {v : Value} {xs : List Nat} (h : Row w base v xs) (o : Obj) : Row (w.alloc o) base v xs := World.ownsRow.alloc h o
theorem nums_at {xs : List Nat} {i : Nat} (h : i < xs.length) : (nums xs)[i]? = some (.int .u64 (xs.getD i 0 : Nat)) := by
  unfold nums
  rw [List.getElem?_map, List.getElem?_eq_getElem h, List.getD_eq_getElem?_getD, List.getElem?_eq_getElem h]
  rfl
theorem plain_add (g j : Nat) : (⟨g, 0, none⟩ : Addr).add j = ⟨g, j, none⟩ := by unfold Addr.add; split <;> simp_all
/-- How it reads. -/
theorem Row.ints {w : World} {base : Nat} {v : Value} {xs : List Nat} (h : Row w base v xs) : ∃ a c, v = .slice a xs.length c ∧ Ints .u64 w a xs.length xs := by
  rcases h.2 with ⟨h1, h2⟩ | ⟨g, cap, cur, h1, h2, h3, h4, h5, _⟩
  · exact ⟨none, 0, by rw [h1, h2], rfl, by omega, fun h0 => by omega⟩
  · refine ⟨_, cap, h1, rfl, by unfold maxLen at h5; omega, fun h0 => ⟨g, 0, rfl, (Array.getElem?_eq_some_iff.1 h3).1, fun i hi => ?_⟩⟩
    have := World.ownsRow.cells h (g := g) (by rw [h1]; rfl) i _ (nums_at hi)
    rw [plain_add] at this
    rw [Nat.zero_add]
    exact this
theorem nums_one (xs : List Nat) : ∀ u ∈ nums xs, u.oneCell' = true := by
  intro u hu
  obtain ⟨x, _, rfl⟩ := List.mem_map.1 hu
  rfl
theorem infoE : Try.prog.info? 22 = some Try.t22 := by kernel_rfl
theorem zeroE : Try.t22.zero = some (.int .u64 0) := by kernel_rfl
section
variable {w : World} {ops : Array Oper} {rest : List Oper} {o : Oper} {a : Act} {Q : Exit → Act → World → Prop}
/-- 'append([]T{}, xs...)'. -/
theorem app_all (hgd : o.guard = none) (s x : Operand) (ho : o.op = .call { callee := .builtin .append, args := #[s, x], argTypes := #[36, 36] })
    {lo : Nat} {v u : Value} {base : Nat} (hs : a.eval s = v) (hown : w.ownsRow lo 22 1 v 0 []) (hx : a.eval x = u) {xs : List Nat} (hu : Row w base u xs) (hl : xs.length ≤ 1000000) (hlo : lo ≤ w.heap.size)
    (h : ∀ v' w', Row w' lo v' xs → Below lo w w' → wpList Try.prog ops Q rest (a.put o.dst v') w') : wpList Try.prog ops Q (o :: rest) a w := by
  rcases hu.2 with ⟨h1, h2⟩ | ⟨g, cap, cur, h1, h2, h3, h4⟩
  · obtain rfl : xs = [] := List.eq_nil_of_length_eq_zero h2
    exact wpList_append_own_none hgd s x 36 ho lo 22 _ 1 Try.underlying36 infoE v 0 [] hs hown (by rw [hx, h1]) (h v w hown (Below.refl _ _))
  · refine wpList_append_own w hgd s x 36 ho lo 22 _ _ 1 8 Try.underlying36 infoE zeroE (by kernel_rfl) (by kernel_rfl) rfl (by decide) v 0 [] hs hown ⟨g, 0, none⟩ xs.length cap (nums xs) (by rw [hx, h1]) (by simp [nums])
      (World.ownsRow.cells hu (g := g) (by rw [h1]; rfl)) (nums_one xs) (by unfold maxLen; omega) (by omega) hlo (fun v' w' r1 r2 _ => h v' w' ?_ ?_)
    · show w'.ownsRow lo 22 1 v' xs.length (nums xs)
      simpa only [Nat.zero_add, List.nil_append] using r1
    · exact (Below.refl lo w).grown r2 hlo (fun k hk => (World.ownsRow.lt hown k hk).1)
/-- 'append(xs, x)'. -/
theorem app_one (hgd : o.guard = none) (s x : Operand) (ho : o.op = .call { callee := .builtin .append, args := #[s, x], argTypes := #[36, 36] })
    {lo : Nat} {v : Value} {xs : List Nat} (hs : a.eval s = v) (hown : Row w lo v xs) {ad : Addr} {n : Nat} (hx : a.eval x = .slice (some ad) 1 1) (hc : w.cell? ad = some (.int .u64 n)) (hl : xs.length ≤ 1000000) (hlo : lo ≤ w.heap.size)
    (h : ∀ v' w', Row w' lo v' (xs ++ [n]) → Below lo w w' → wpList Try.prog ops Q rest (a.put o.dst v') w') : wpList Try.prog ops Q (o :: rest) a w := by
  refine wpList_append_own w hgd s x 36 ho lo 22 _ _ 1 8 Try.underlying36 infoE zeroE (by kernel_rfl) (by kernel_rfl) rfl (by decide) v xs.length (nums xs) hs hown ad 1 1 (nums [n]) hx rfl
    (fun j u hj => ?_) (nums_one [n]) (by unfold maxLen; omega) (by omega) hlo (fun v' w' r1 r2 _ => h v' w' ?_ ?_)
  · match j, hj with
    | 0, hj =>
      simp [nums] at hj
      subst hj
      exact hc
  · have e1 : nums xs ++ nums [n] = nums (xs ++ [n]) := by simp [nums]
    rw [e1] at r1
    show w'.ownsRow lo 22 1 v' (xs ++ [n]).length _
    rw [List.length_append]
    exact r1
  · exact (Below.refl lo w).grown r2 hlo (fun k hk => (World.ownsRow.lt hown k hk).1)
end
end Go.Proofs.Ytnjneljlphilnaa
