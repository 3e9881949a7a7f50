/- A row of texts that the caller made: read, and copied with one text more. -/
import Derived.Test.YtdnihlfnglkjiaaMem
import Derived.Test.YtdnihlfnglkjiaaChecked
import Derived.OwnWalk
import Derived.Laws.AppendOwn
import Derived.Laws.AppendOwnNone
import Derived.WalkKit
namespace Go.Proofs.Ytdnihlfnglkjiaa
open Go.RowKit
/-- The slice's elements are zs. -/
def Strs (w : World) (a : Option Addr) (n : Nat) (zs : List ByteArray) : Prop :=
  zs.length = n ∧ n ≤ 9223372036854775807 ∧ (0 < n → ∃ b off, a = some ⟨b, off, none⟩ ∧ b < w.heap.size ∧ ∀ i, i < n → w.cell? ⟨b, off + i, none⟩ = some (.string (zs.getD i ByteArray.empty)))
def strs (xs : List ByteArray) : List Value := xs.map Value.string
/-- A row of texts of the caller's own. -/
def SRow (w : World) (base : Nat) (v : Value) (xs : List ByteArray) : Prop := w.ownsRow base 9 1 v xs.length (strs xs)
theorem SRow.nil (w : World) (base : Nat) : SRow w base (.slice none 0 0) [] := World.ownsRow_nil w base 9 1
theorem SRow.up {w : World} {base : Nat} {v : Value} {xs : List ByteArray} (h : SRow w base v xs) {b : Nat} (hb : b ≤ base) : SRow w b v xs := by
  refine ⟨h.1, ?_⟩
  rcases h.2 with hn | ⟨g, cap, cur, h1, h2, h3⟩
  · exact .inl hn
  · exact .inr ⟨g, cap, cur, h1, Nat.le_trans hb h2, h3⟩
theorem SRow.below {w w' : World} {base : Nat} {v : Value} {xs : List ByteArray} (h : SRow w base v xs) (hb : Below w.heap.size w w') : SRow w' base v xs := by
  refine ⟨h.1, ?_⟩
  rcases h.2 with hn | ⟨g, cap, cur, h1, h2, h3, h4⟩
  · exact .inl hn
  · exact .inr ⟨g, cap, cur, h1, h2, (hb.block g (Array.getElem?_eq_some_iff.1 h3).1).trans h3, h4⟩
theorem SRow.grown {w w' : World} {base g : Nat} {v : Value} {xs : List ByteArray} (h : SRow w base v xs) (hb : w.grownBy w' (some g)) (hg : g < base) : SRow w' base v xs := by
  refine World.ownsRow.kept h hb (.inr fun e => ?_)
  have := (World.ownsRow.lt h g e).1
  omega
theorem SRow.store {w : World} {base g i : Nat} {v : Value} {xs : List ByteArray} (h : SRow w base v xs) (hg : g < base) (u : Value) : SRow (w.setCell ⟨g, i, none⟩ u) base v xs := h.grown (turn_store (turn_refl w _) i u) hg
theorem SRow.draws {w : World} {base : Nat} {v : Value} {xs : List ByteArray} (h : SRow w base v xs) (m : Nat) : SRow (w.drewN m) base v xs := h
theorem SRow.alloc {w : World} {base : Nat} {v : Value} {xs : List ByteArray} (h : SRow w base v xs) (o : Obj) : SRow (w.alloc o) base v xs := World.ownsRow.alloc h o
theorem strs_at {xs : List ByteArray} {i : Nat} (h : i < xs.length) : (strs xs)[i]? = some (.string (xs.getD i ByteArray.empty)) := by
  unfold strs
  rw [List.getElem?_map, List.getElem?_eq_getElem h, List.getD_eq_getElem?_getD, List.getElem?_eq_getElem h]
  rfl
theorem plain_add (g j : Nat) : (⟨g, 0, none⟩ : Addr).add j = ⟨g, j, none⟩ := by unfold Addr.add; split <;> simp_all
/-- How it reads. -/
theorem SRow.strs {w : World} {base : Nat} {v : Value} {xs : List ByteArray} (h : SRow w base v xs) : ∃ a c, v = .slice a xs.length c ∧ Strs w a xs.length xs := by
  rcases h.2 with ⟨h1, h2⟩ | ⟨g, cap, cur, h1, h2, h3, h4, h5, _⟩
  · exact ⟨none, 0, by rw [h1, h2], rfl, by omega, fun h0 => by omega⟩
  · refine ⟨_, cap, h1, rfl, by unfold maxLen at h5; omega, fun h0 => ⟨g, 0, rfl, (Array.getElem?_eq_some_iff.1 h3).1, fun i hi => ?_⟩⟩
    have := World.ownsRow.cells h (g := g) (by rw [h1]; rfl) i _ (strs_at hi)
    rw [plain_add] at this
    rw [Nat.zero_add]
    exact this
theorem strs_one (xs : List ByteArray) : ∀ u ∈ strs xs, u.oneCell' = true := by
  intro u hu
  obtain ⟨x, _, rfl⟩ := List.mem_map.1 hu
  rfl
theorem infoE : Try.prog.info? 9 = some Try.t9 := by kernel_rfl
theorem zeroE : Try.t9.zero = some (.string ByteArray.empty) := by kernel_rfl
section
variable {w : World} {ops : Array Oper} {rest : List Oper} {o : Oper} {a : Act} {Q : Exit → Act → World → Prop}
/-- 'append([]T{}, xs...)'. -/
theorem app_all (hgd : o.guard = none) (s x : Operand) (ho : o.op = .call { callee := .builtin .append, args := #[s, x], argTypes := #[23, 23] })
    {lo : Nat} {v u : Value} {base : Nat} (hs : a.eval s = v) (hown : w.ownsRow lo 9 1 v 0 []) (hx : a.eval x = u) {xs : List ByteArray} (hu : SRow w base u xs) (hl : xs.length ≤ 1000000) (hlo : lo ≤ w.heap.size)
    (h : ∀ v' w', SRow w' lo v' xs → Below lo w w' → wpList Try.prog ops Q rest (a.put o.dst v') w') : wpList Try.prog ops Q (o :: rest) a w := by
  rcases hu.2 with ⟨h1, h2⟩ | ⟨g, cap, cur, h1, h2, h3, h4⟩
  · obtain rfl : xs = [] := List.eq_nil_of_length_eq_zero h2
    exact wpList_append_own_none hgd s x 23 ho lo 9 _ 1 Try.underlying23 infoE v 0 [] hs hown (by rw [hx, h1]) (h v w hown (Below.refl _ _))
  · refine wpList_append_own w hgd s x 23 ho lo 9 _ _ 1 16 Try.underlying23 infoE zeroE (by kernel_rfl) (by kernel_rfl) rfl (by decide) v 0 [] hs hown ⟨g, 0, none⟩ xs.length cap (strs xs) (by rw [hx, h1]) (by simp [strs])
      (World.ownsRow.cells hu (g := g) (by rw [h1]; rfl)) (strs_one xs) (by unfold maxLen; omega) (by omega) hlo (fun v' w' r1 r2 _ => h v' w' ?_ ?_)
    · show w'.ownsRow lo 9 1 v' xs.length (strs xs)
      simpa only [Nat.zero_add, List.nil_append] using r1
    · exact (Below.refl lo w).grown r2 hlo (fun k hk => (World.ownsRow.lt hown k hk).1)
/-- 'append(xs, x)'. -/
theorem app_one (hgd : o.guard = none) (s x : Operand) (ho : o.op = .call { callee := .builtin .append, args := #[s, x], argTypes := #[23, 23] })
    {lo : Nat} {v : Value} {xs : List ByteArray} (hs : a.eval s = v) (hown : SRow w lo v xs) {ad : Addr} {n : ByteArray} (hx : a.eval x = .slice (some ad) 1 1) (hc : w.cell? ad = some (.string n)) (hl : xs.length ≤ 1000000) (hlo : lo ≤ w.heap.size)
    (h : ∀ v' w', SRow w' lo v' (xs ++ [n]) → Below lo w w' → wpList Try.prog ops Q rest (a.put o.dst v') w') : wpList Try.prog ops Q (o :: rest) a w := by
  refine wpList_append_own w hgd s x 23 ho lo 9 _ _ 1 16 Try.underlying23 infoE zeroE (by kernel_rfl) (by kernel_rfl) rfl (by decide) v xs.length (strs xs) hs hown ad 1 1 (strs [n]) hx rfl
    (fun j u hj => ?_) (strs_one [n]) (by unfold maxLen; omega) (by omega) hlo (fun v' w' r1 r2 _ => h v' w' ?_ ?_)
  · match j, hj with
    | 0, hj =>
      simp [strs] at hj
      subst hj
      exact hc
  · have e1 : strs xs ++ strs [n] = strs (xs ++ [n]) := by simp [strs]
    rw [e1] at r1
    show w'.ownsRow lo 9 1 v' (xs ++ [n]).length _
    rw [List.length_append]
    exact r1
  · exact (Below.refl lo w).grown r2 hlo (fun k hk => (World.ownsRow.lt hown k hk).1)
end
end Go.Proofs.Ytdnihlfnglkjiaa
