/- A grid in which a row was turned. -/
import Derived.Test.YtlhcehealjdbdaaDoorGOwn
import Derived.Deep.DeepCutAuto
namespace Go.Proofs.YtlhcehealjdbdaaDoor
open Go.RowKit
set_option linter.unusedSimpArgs false
set_option linter.unusedVariables false
attribute [local go_sem] alloc_drewN setCell_drewN


def GG (c r : Int) (xs : List Glyph) (w : World) (e : Ending) (w' : World) : Prop := ∃ v', e = .returned (.agg #[.int .i64 c, .int .i64 r, v']) ∧ CRow w' w.heap.size v' xs ∧ Below w.heap.size w w'
section
variable {w : World} {o : Oper} {a : Act} {Q : Exit → Act → World → Prop}
/-- A part of a row written over by other cells. -/
theorem gpart_op {K : Act → World → Prop} (p q : Operand) (ho : o.op = .call { callee := .builtin .copy, args := #[p, q], argTypes := #[29, 29] }) {base g n c : Nat} {xs qs : List Glyph} (ds m : Nat) {dp sp : Option Addr} {dl sl dc sc : Nat}
    (hd : a.eval p = .slice dp dl dc) (hs : a.eval q = .slice sp sl sc) (hr : CRow w base (.slice (some ⟨g, 0, none⟩) n c) xs) (hq : Cells w sp sl qs) (hm : m = Nat.min sl dl) (hdl : ds + m ≤ n)
    (hdp : 0 < m → dp = some ⟨g, ds * 6, none⟩)
    (h : ∀ w', CRow w' base (.slice (some ⟨g, 0, none⟩) n c) (xs.take ds ++ qs.take m ++ xs.drop (ds + m)) → w.grownBy w' (some g) → K (a.put o.dst (goInt m)) w') : Oper.wp Tryd.prog o a w K Q := by
  have hz := crow_len hr
  have hql := hq.1
  have hms : m ≤ sl := by rw [hm]; exact Nat.min_le_left _ _
  rcases hr.2 with ⟨h1, _⟩ | ⟨g', cap, cur, h1, h2, h3, h4, h5, h6, h7⟩
  · cases h1
  · injection h1 with h0 h1 h8
    injection h0 with h0
    injection h0 with h0
    subst h0 h8
    rw [hz] at h7 h4 h1
    have hcs : flat (qs.take m) = (flat qs).take (m * 6) := by rw [flat_take]
    have hcl : (flat (qs.take m)).length = m * 6 := by rw [flat_len, List.length_take]; congr 1; omega
    obtain ⟨tl, hcur⟩ : ∃ tl, cur.toList = flat xs ++ tl := ⟨cur.toList.drop (n * 6), by rw [← h7]; exact (List.take_append_drop _ _).symm⟩
    have hxl := flat_len xs
    refine gcopy_op p q 29 29 ho 28 6 Tryd.underlying29 gsize dp sp dl dc sl sc hd hs g (ds * 6) cur.toList 28 (by simpa using h3) (flat (qs.take m)) m hm hcl (fun h0 => ?_) (by rw [hcl]; simp; omega) (flat_one _) base w (Below.refl _ _) h2 (fun w' k1 _ k3 => h w' ?_ k3.out)
    · obtain ⟨ad, had, hsrc⟩ := gsrc_cells hq (by omega)
      refine ⟨hdp h0, ad, had, fun j v hj => ?_⟩
      rw [hcs, List.getElem?_take] at hj
      split at hj
      · exact hsrc j v hj
      · cases hj
    · have hsh : (xs.take ds ++ qs.take m ++ xs.drop (ds + m)).length = n := by
        rw [List.length_append, List.length_append, List.length_take, List.length_take, List.length_drop]
        omega
      have k1' := k1.out
      refine ⟨by rw [flat_len], .inr ⟨g, c, _, by rw [hsh], h2, k1', by rw [hsh]; exact h4, h5, ?_, ?_⟩⟩
      · simp [splice, hcl] at h6 ⊢
        omega
      · rw [hsh, hcur]
        unfold splice
        have e1 : (flat xs ++ tl).take (ds * 6) = (flat xs).take (ds * 6) := List.take_append_of_le_length (by rw [hxl]; omega)
        have e2 : (flat xs ++ tl).drop (ds * 6 + m * 6) = (flat xs).drop (ds * 6 + m * 6) ++ tl := List.drop_append_of_le_length (by rw [hxl]; omega)
        rw [hcl, e1, e2, flat_app, flat_app, flat_take xs, flat_drop xs (ds + m), show (ds + m) * 6 = ds * 6 + m * 6 from by omega]
        show List.take (n * 6) (_ ++ (_ ++ (_ ++ tl))) = _
        rw [← List.append_assoc, ← List.append_assoc]
        refine List.take_left' ?_
        simp [hcl, hxl]
        omega
end
noncomputable def turnP (c r : Int) (xs : List Glyph) (y f b : Int) (tf : List Glyph → List Glyph) : List Glyph :=
  if (gridMay c r xs && penMay f b) = true then (if 0 ≤ y ∧ y < r then setRow xs c.toNat y.toNat (tf (rowOf c.toNat y.toNat xs)) else xs) else []
noncomputable def okI (c r : Int) (xs : List Glyph) (f b v : Int) : Int := if (gridMay c r xs && penMay f b) = true then v else 0
end Go.Proofs.YtlhcehealjdbdaaDoor
