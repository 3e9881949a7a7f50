/- A slice of texts, and one call's record, that came in. -/
import Derived.Test.YtdnihlfnglkjiaaLView
import Derived.Test.YtdnihlfnglkjiaaFind
import Derived.Lib.SmallJoins
import Derived.SliceStrings
namespace Go.Proofs.Ytdnihlfnglkjiaa
open Go.ChangeShapes Go.WideShapes Go.ChangeAt Go.RowKit Go.Deep

section
variable {H : Type} {enc : TypeId × Value → H} {P : Program} {W : World} {base : Nat} {v : Value} {d : DataW H} {p : List MemPlace}
theorem weights_strs (e : TypeId) : ∀ (ss : List ByteArray), ∀ y ∈ ss, y.data.toList.length ∈ DataW.weightsAll P e (ChangeShapes.strs (H := H) ss)
  | s :: ss, y, hy => by
    unfold ChangeShapes.strs
    simp only [List.map_cons, DataW.weightsAll]
    rcases List.mem_cons.1 hy with rfl | h
    · exact List.mem_append_left _ (by simp [DataW.weights])
    · exact List.mem_append_right _ (weights_strs e ss y h)
theorem view_strs {t e : TypeId} (ht : P.underlying t = some (.slice e)) (he : P.underlying e = some .string) (hc : P.cellsOf e = 1)
    (u : Value.okWide P W .any base t v) (h : DataW.Trod enc P W 0 (fun _ => true) true t v d p) (z : ∀ n ∈ d.weights P t, n ≤ reachBytes) :
    ∃ (a : Option Addr) (n c : Nat) (xs : List ByteArray), v = .slice a n c ∧ Strs W a n xs ∧ n ≤ c ∧ ∀ x ∈ xs, x.size ≤ 4611686018427387904 := by
  obtain ⟨a, len, cap, rfl⟩ := okWide_slice ht u
  obtain ⟨fuel, hf⟩ := h
  rcases open_strings ht he hc hf with ⟨hcs, _⟩ | ⟨x, l, c, ss, hcs, _, hl, hm, hz, hx, hcell, hws⟩
  · simp [Value.cells] at hcs
    obtain ⟨rfl, rfl, rfl⟩ := hcs
    exact ⟨_, _, _, [], rfl, ⟨rfl, by decide, fun h => absurd h (by omega)⟩, Nat.le_refl _, by simp⟩
  · simp [Value.cells] at hcs
    obtain ⟨rfl, rfl, rfl⟩ := hcs
    simp only [if_true] at hz
    refine ⟨_, _, _, ss.take len, rfl, ⟨by simp; omega, by unfold maxLen at hm; omega, fun h0 => ?_⟩, hl, fun y hy => ?_⟩
    · obtain ⟨b, off, spot⟩ := x
      have h1 := hcell 0 (by omega)
      have hspot : spot = none := by simpa [Addr.add] using World.cell?_spot h1
      subst hspot
      refine ⟨b, off, rfl, Keep.lt (p := ⟨b, off, none⟩) (by simp [Addr.add] at h1; rw [h1]; rfl), fun i hi => ?_⟩
      have h2 := hcell i (by omega)
      rw [add_plain] at h2
      rw [h2, List.getD_eq_getElem?_getD, List.getD_eq_getElem?_getD, List.getElem?_take_of_lt hi]
    · simp only [Prod.mk.injEq] at hx
      obtain ⟨rfl, _⟩ := hx
      have hw : y.data.toList.length ∈ DataW.weights P t (.slice (ChangeShapes.strs (H := H) (ss.take len)) (ChangeShapes.strs (ss.drop len))) := by
        simp only [DataW.weights, ht]
        exact List.mem_cons_of_mem _ (List.mem_append_left _ (weights_strs e _ y hy))
      have h3 := z _ hw
      have h4 : y.data.toList.length = y.size := rfl
      rw [h4] at h3
      unfold reachBytes at h3
      omega
theorem view_op {t r : TypeId} {f0 f1 f2 : Field} (he : P.underlying t = some (.struct #[f0, f1, f2])) (hone : oneCellFields P #[f0, f1, f2] = true) (hC : P.cellsOf t = 3)
    (h0 : P.underlying f0.type = some .bool) (h1 : P.underlying f1.type = some .string) (h2 : P.underlying f2.type = some (.slice r)) (h3 : P.underlying r = some (.int .u16)) (h4 : P.cellsOf r = 1)
    (u : Value.okWide P W .any base t v) (h : DataW.Trod enc P W 0 (fun _ => true) true t v d p) :
    ∃ (sw : Bool) (s : ByteArray) (a : Option Addr) (n c : Nat) (us : List Nat), v = .agg #[.bool sw, .string s, .slice a n c] ∧ s.size ≤ 9223372036854775807 ∧ Ints .u16 W a n us ∧ ∀ z ∈ us, z < 65536 := by
  obtain ⟨c0, c1, c2, y0, y1, y2, n, rfl, _, _, t0, t1, t2⟩ := Go.Joins.open_agg3 he hone hC u h
  obtain ⟨q0, e0, _⟩ := DataW.trod_bool h0 t0
  obtain ⟨q1, e1, _, w1⟩ := DataW.trod_string h1 t1
  simp at e0 e1
  subst e0 e1
  have hs : q1.size ≤ 9223372036854775807 := by unfold maxLen at w1; omega
  rcases open_ints h2 h3 h4 t2 with ⟨hcs2, _⟩ | ⟨x2, l2, k2, zs, hcs2, _, hl2, hm2, hz2, _, hcell2, hwz2⟩
  · simp at hcs2
    subst hcs2
    exact ⟨q0, q1, none, 0, 0, [], rfl, hs, ints_none, by simp⟩
  · simp at hcs2
    subst hcs2
    refine ⟨q0, q1, some x2, l2, k2, _, rfl, hs, ints_some hl2 hm2 (by simpa using hz2) hcell2 (fun n hn => (u16_nn n (hwz2 n hn)).1), fun z hz' => ?_⟩
    obtain ⟨n, hn, rfl⟩ := List.mem_map.1 hz'
    have := u16_nn n (hwz2 n (List.mem_of_mem_take hn))
    omega
end
end Go.Proofs.Ytdnihlfnglkjiaa
