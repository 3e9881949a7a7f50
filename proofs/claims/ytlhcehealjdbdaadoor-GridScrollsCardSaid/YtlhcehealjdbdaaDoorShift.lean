/- A part of a row laid over another part of it. -/
import Derived.Test.YtlhcehealjdbdaaDoorGStore
namespace Go.Proofs.YtlhcehealjdbdaaDoor
open Go.RowKit
set_option linter.unusedSimpArgs false
set_option linter.unusedVariables false
attribute [local go_sem] alloc_drewN setCell_drewN


/-- m cells from s on laid at d. -/
def shiftP (xs : List Glyph) (d s m : Nat) : List Glyph := xs.take d ++ (xs.drop s).take m ++ xs.drop (d + m)
theorem shift_len {xs : List Glyph} {d s m : Nat} (hd : d + m ≤ xs.length) (hs : s + m ≤ xs.length) : (shiftP xs d s m).length = xs.length := by
  simp [shiftP]
  omega
theorem flat_take : ∀ (xs : List Glyph) (k : Nat), flat (xs.take k) = (flat xs).take (k * 6)
  | [], k => by simp [flat]
  | c :: cs, 0 => by simp [flat]
  | c :: cs, k + 1 => by
    have h6 : c.cells.length = 6 := rfl
    simp only [flat, List.take_succ_cons]
    have e : c.cells.take ((k + 1) * 6) = c.cells := List.take_of_length_le (by rw [h6]; omega)
    rw [List.take_append, h6, e, flat_take cs k, show (k + 1) * 6 - 6 = k * 6 from by omega]
theorem flat_drop : ∀ (xs : List Glyph) (k : Nat), flat (xs.drop k) = (flat xs).drop (k * 6)
  | [], k => by simp [flat]
  | c :: cs, 0 => by simp [flat]
  | c :: cs, k + 1 => by
    have h6 : c.cells.length = 6 := rfl
    simp only [flat, List.drop_succ_cons]
    have e : c.cells.drop ((k + 1) * 6) = [] := List.drop_eq_nil_of_le (by rw [h6]; omega)
    rw [List.drop_append, h6, e, flat_drop cs k, show (k + 1) * 6 - 6 = k * 6 from by omega]
    rfl
theorem crow_cap {w : World} {base : Nat} {xs : List Glyph} {a : Option Addr} {n c : Nat} (h : CRow w base (.slice a n c) xs) (h0 : 0 < n) : n ≤ c := by
  have hz := crow_len h
  rcases h.2 with ⟨h1, h2⟩ | ⟨g, cap, cur, h1, _, _, h4, _⟩
  · omega
  · injection h1 with _ _ h1
    omega
section
variable {w : World} {ops : Array Oper} {rest : List Oper} {o : Oper} {a : Act} {Q : Exit → Act → World → Prop}
theorem gshift_op {K : Act → World → Prop} (p q : Operand) (ho : o.op = .call { callee := .builtin .copy, args := #[p, q], argTypes := #[29, 29] }) {base g n c : Nat} {xs : List Glyph} (ds ss m : Nat) {dp sp : Option Addr} {dl sl dc sc : Nat}
    (hd : a.eval p = .slice dp dl dc) (hs : a.eval q = .slice sp sl sc) (hr : CRow w base (.slice (some ⟨g, 0, none⟩) n c) xs) (hm : m = Nat.min sl dl) (hdl : ds + m ≤ n) (hsl : ss + m ≤ n)
    (hdp : 0 < m → dp = some ⟨g, ds * 6, none⟩) (hsp : 0 < m → sp = some ⟨g, ss * 6, none⟩)
    (h : ∀ w', CRow w' base (.slice (some ⟨g, 0, none⟩) n c) (shiftP xs ds ss m) → w.grownBy w' (some g) → K (a.put o.dst (goInt m)) w') : Oper.wp Tryd.prog o a w K Q := by
  have hz := crow_len hr
  rcases hr.2 with ⟨h1, _⟩ | ⟨g', cap, cur, h1, h2, h3, h4, h5, h6, h7⟩
  · cases h1
  · injection h1 with h0 h1 h8
    injection h0 with h0
    injection h0 with h0
    subst h0 h8
    rw [hz] at h7 h4 h1
    have hcs : flat ((xs.drop ss).take m) = ((flat xs).drop (ss * 6)).take (m * 6) := by rw [flat_take, flat_drop]
    have hcl : (flat ((xs.drop ss).take m)).length = m * 6 := by rw [flat_len, List.length_take, List.length_drop]; congr 1; omega
    obtain ⟨tl, hcur⟩ : ∃ tl, cur.toList = flat xs ++ tl := ⟨cur.toList.drop (n * 6), by rw [← h7]; exact (List.take_append_drop _ _).symm⟩
    have hxl := flat_len xs
    refine gcopy_op p q 29 29 ho 28 6 Tryd.underlying29 gsize dp sp dl dc sl sc hd hs g (ds * 6) cur.toList 28 (by simpa using h3) (flat ((xs.drop ss).take m)) m hm hcl (fun h0 => ⟨hdp h0, _, hsp h0, fun j v hj => ?_⟩) (by rw [hcl]; simp; omega) (flat_one _) base w (Below.refl _ _) h2 (fun w' k1 _ k3 => h w' ?_ k3.out)
    · rw [hcs, List.getElem?_take] at hj
      by_cases hjm : j < m * 6
      · rw [if_pos hjm, List.getElem?_drop] at hj
        have := World.ownsRow.cells hr (g := g) rfl (ss * 6 + j) v hj
        rw [gplain_add] at this
        have e : (⟨g, ss * 6, none⟩ : Addr).add j = ⟨g, ss * 6 + j, none⟩ := by rw [Go.WideShapes.add_plain]
        rw [e]
        exact this
      · rw [if_neg hjm] at hj
        cases hj
    · have hsh := shift_len (d := ds) (s := ss) (m := m) (xs := xs) (by omega) (by omega)
      have k1' := k1.out
      refine ⟨by rw [flat_len], .inr ⟨g, c, _, by rw [hsh, hz], h2, k1', by rw [hsh, hz]; exact h4, h5, ?_, ?_⟩⟩
      · simp [splice, hcl] at h6 ⊢
        omega
      · rw [hsh, hz, hcur]
        unfold splice shiftP
        have e1 : (flat xs ++ tl).take (ds * 6) = (flat xs).take (ds * 6) := List.take_append_of_le_length (by rw [hxl]; omega)
        have e2 : (flat xs ++ tl).drop (ds * 6 + m * 6) = (flat xs).drop (ds * 6 + m * 6) ++ tl := List.drop_append_of_le_length (by rw [hxl]; omega)
        rw [hcl, e1, e2, flat_app, flat_app, flat_take xs, flat_drop xs (ds + m), show (ds + m) * 6 = ds * 6 + m * 6 from by omega]
        show List.take (n * 6) (_ ++ (_ ++ (_ ++ tl))) = _
        rw [← List.append_assoc, ← List.append_assoc]
        refine List.take_left' ?_
        simp [hcl, hxl]
        omega
end
end Go.Proofs.YtlhcehealjdbdaaDoor
