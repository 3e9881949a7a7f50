/- Rows of rows of cells, in memory. -/
import Derived.Test.YtlhcehealjdbdaaDoorGScroll
namespace Go.Proofs.YtlhcehealjdbdaaDoor
open Go.RowKit
set_option linter.unusedSimpArgs false
set_option linter.unusedVariables false
attribute [local go_sem] alloc_drewN setCell_drewN


/-- A slice of rows, all the caller's own. -/
def RowsAt (w : World) (base : Nat) (v : Value) (L : List (List Glyph)) : Prop := ∃ vs : List Value, vs.length = L.length ∧ w.ownsRow base 29 1 v L.length vs ∧ ∀ i, i < L.length → CRow w 0 (vs.getD i undef) (L.getD i [])
theorem rinfoE : Tryd.prog.info? 29 = some Tryd.t29 := by kernel_rfl
theorem rzeroE : Tryd.t29.zero = some (.slice none 0 0) := by kernel_rfl
theorem apart_rows {w : World} {b1 b2 e1 e2 s1 s2 n1 n2 : Nat} {v1 v2 : Value} {x1 x2 : List Value} (h1 : w.ownsRow b1 e1 s1 v1 n1 x1) (h2 : w.ownsRow b2 e2 s2 v2 n2 x2) (hne : e1 ≠ e2) : v1.ownBlock = none ∨ v1.ownBlock ≠ v2.ownBlock := by
  rcases h1.2 with ⟨rfl, _⟩ | ⟨g, cap, cur, rfl, _, hg, _⟩
  · exact .inl rfl
  · rcases h2.2 with ⟨rfl, _⟩ | ⟨g', cap', cur', rfl, _, hg', _⟩
    · exact .inr (fun e => by cases e)
    · refine .inr (fun e => ?_)
      simp only [Value.ownBlock, Option.some.injEq] at e
      subst e
      rw [hg] at hg'
      injection hg' with hg'
      injection hg' with _ hg' _
      exact hne hg'
theorem apart_own {w : World} {b1 e1 s1 n1 b t : Nat} {v1 : Value} {x1 : List Value} {cs : Array Value} (h1 : w.ownsRow b1 e1 s1 v1 n1 x1) (h2 : Own w b t cs) (hne : e1 ≠ t) : v1.ownBlock = none ∨ v1.ownBlock ≠ some b := by
  rcases h1.2 with ⟨rfl, _⟩ | ⟨g, cap, cur, rfl, _, hg, _⟩
  · exact .inl rfl
  · refine .inr (fun e => ?_)
    simp only [Value.ownBlock, Option.some.injEq] at e
    subst e
    unfold Own at h2
    rw [hg] at h2
    injection h2 with h2
    injection h2 with _ h2 _
    exact hne h2
section
variable {w w' : World} {base : Nat} {v : Value} {L : List (List Glyph)}
theorem RowsAt.below (h : RowsAt w base v L) (hb : Below w.heap.size w w') : RowsAt w' base v L := by
  obtain ⟨vs, h1, h2, h3⟩ := h
  exact ⟨vs, h1, h2.kept (grown_of_below hb none) (by cases hv : v.ownBlock <;> simp), fun i hi => (h3 i hi).below hb⟩
theorem RowsAt.past {b t : Nat} {cs : Array Value} (h : RowsAt w base v L) (k : w.grownBy w' (some b)) (ho : Own w b t cs) (h28 : 28 ≠ t) (h29 : 29 ≠ t) : RowsAt w' base v L := by
  obtain ⟨vs, h1, h2, h3⟩ := h
  exact ⟨vs, h1, h2.kept k (apart_own h2 ho h29), fun i hi => World.ownsRow.kept (h3 i hi) k (apart_own (h3 i hi) ho h28)⟩
theorem RowsAt.nil (w : World) : RowsAt (w.alloc (.cells #[] 29)) w.heap.size (.slice (some ⟨w.heap.size, 0, none⟩) 0 0) [] :=
  ⟨[], rfl, World.ownsRow_made (base := w.heap.size) (e := 29) (size := 1) w #[] 0 (Nat.le_refl _) (by decide) rfl, fun i hi => absurd hi (by simp)⟩
theorem rows_form (h : RowsAt w base v L) : ∃ a c, v = .slice a L.length c := by
  obtain ⟨vs, h1, h2, h3⟩ := h
  rcases h2.2 with ⟨e, hn⟩ | ⟨g, cap, cur, e, _⟩
  · exact ⟨none, 0, by rw [e, hn]⟩
  · exact ⟨_, cap, e⟩
theorem rows_addr {a : Option Addr} {n c : Nat} (h : RowsAt w base (.slice a n c) L) (h0 : 0 < n) : ∃ g, a = some ⟨g, 0, none⟩ ∧ L.length = n ∧ base ≤ g ∧ g < w.heap.size ∧ n ≤ c := by
  obtain ⟨vs, h1, h2, h3⟩ := h
  rcases h2.2 with ⟨e, hn⟩ | ⟨g, cap, cur, e, hb, hg, hc, _⟩
  · injection e with _ e _
    omega
  · injection e with e1 e2 e3
    exact ⟨g, e1, e2.symm, hb, (Array.getElem?_eq_some_iff.1 hg).1, by omega⟩
theorem rows_at {g n c i : Nat} (h : RowsAt w base (.slice (some ⟨g, 0, none⟩) n c) L) (hi : i < n) : ∃ a' c', w.cell? ⟨g, i, none⟩ = some (.slice a' (L.getD i []).length c') ∧ CRow w 0 (.slice a' (L.getD i []).length c') (L.getD i []) ∧ w.frozen? ⟨g, i, none⟩ = false := by
  obtain ⟨vs, h1, h2, h3⟩ := h
  rcases h2.2 with ⟨e, hn⟩ | ⟨g', cap, cur, e, hb, hg, hc⟩
  · cases e
  · injection e with e1 e2 e3
    injection e1 with e1
    injection e1 with e1
    subst e1 e3
    have hvi : vs[i]? = some (vs.getD i undef) := by rw [List.getD_eq_getElem?_getD, List.getElem?_eq_getElem (by omega)]; rfl
    have hcell := World.ownsRow.cells h2 (g := g) rfl i _ hvi
    rw [gplain_add] at hcell
    have hrow := h3 i (by omega)
    obtain ⟨a', c', hv, _⟩ := hrow.cells
    rw [hv] at hcell hrow
    exact ⟨a', c', hcell, hrow, Own.frozen (show Own w g 29 cur from hg) i⟩
theorem getD_app {L : List (List Glyph)} {l : List Glyph} {i : Nat} (hi : i < (L ++ [l]).length) : (L ++ [l]).getD i [] = if i < L.length then L.getD i [] else l := by
  rw [List.getD_eq_getElem?_getD, List.getElem?_append]
  split
  · rw [← List.getD_eq_getElem?_getD]
  · have : i - L.length = 0 := by simp at hi; omega
    rw [this]
    rfl
end
section
variable {o : Oper} {a : Act} {w : World} {Q : Exit → Act → World → Prop} {ops : Array Oper} {rest : List Oper}
/-- 'append(L, l)'. -/
theorem rapp (hgd : o.guard = none) (s x : Operand) (ho : o.op = .call { callee := .builtin .append, args := #[s, x], argTypes := #[59, 59] })
    {lo : Nat} {v u : Value} {L : List (List Glyph)} {l : List Glyph} (hs : a.eval s = v) (hown : RowsAt w lo v L) {h1 c : Nat} (hx : a.eval x = .slice (some ⟨h1, 0, none⟩) 1 c) (hu : w.cell? ⟨h1, 0, none⟩ = some u) (hrow : CRow w 0 u l) (hl : L.length ≤ 1000) (hlo : lo ≤ w.heap.size)
    (h : ∀ v' w', RowsAt w' lo v' (L ++ [l]) → w.grownBy w' v.ownBlock → Below lo w w' → wpList Tryd.prog ops Q rest (a.put o.dst v') w') : wpList Tryd.prog ops Q (o :: rest) a w := by
  obtain ⟨vs, k1, k2, k3⟩ := hown
  have hone : u.oneCell' = true := by
    obtain ⟨a', c', e, _⟩ := hrow.cells
    rw [e]
    rfl
  refine wpList_append_own w hgd s x 59 ho lo 29 _ _ 1 24 Tryd.underlying59 rinfoE rzeroE (by kernel_rfl) (by kernel_rfl) rfl (by decide) v L.length vs hs k2 ⟨h1, 0, none⟩ 1 c [u] hx rfl
    (fun j t hj => by
      have : j = 0 := by
        rcases Nat.eq_zero_or_pos j with e | e
        · exact e
        · rw [List.getElem?_eq_none (by simp; omega)] at hj
          cases hj
      subst this
      simp only [List.getElem?_cons_zero, Option.some.injEq] at hj
      subst hj
      rw [gplain_add]
      exact hu) (by simpa using hone) (by unfold maxLen; omega) (by omega) hlo (fun v' w' r1 r2 _ => h v' w' ?_ r2 ?_)
  · refine ⟨vs ++ [u], by simp [k1], by simpa using r1, fun i hi => ?_⟩
    rw [getD_app hi]
    have hvi : (vs ++ [u]).getD i undef = if i < vs.length then vs.getD i undef else u := by
      rw [List.getD_eq_getElem?_getD, List.getElem?_append]
      split
      · rw [← List.getD_eq_getElem?_getD]
      · have : i - vs.length = 0 := by simp at hi; omega
        rw [this]
        rfl
    rw [hvi, k1]
    split
    · rename_i hil
      exact World.ownsRow.kept (k3 i hil) r2 (apart_rows (k3 i hil) k2 (by decide))
    · exact World.ownsRow.kept hrow r2 (apart_rows hrow k2 (by decide))
  · exact (Below.refl lo w).grown r2 hlo (fun k hk => (World.ownsRow.lt k2 k hk).1)
/-- A row stored at a place. -/
theorem rset_run {base g n c i : Nat} {L : List (List Glyph)} {l : List Glyph} {ua : Option Addr} {un uc : Nat} (h : RowsAt w base (.slice (some ⟨g, 0, none⟩) n c) L) (hi : i < n) (hrow : CRow w 0 (.slice ua un uc) l) :
    ∃ w', (Instr.storeAt 29 (.pointer (some ⟨g, i, none⟩)) (.slice ua un uc)).run Tryd.prog w = .ok () w' ∧ RowsAt w' base (.slice (some ⟨g, 0, none⟩) n c) (L.set i l) ∧ w.grownBy w' (some g) := by
  obtain ⟨a', c', e0, _, f0⟩ := rows_at h hi
  obtain ⟨vs, k1, k2, k3⟩ := h
  have k := turn_store (turn_refl w (some g)) i (.slice ua un uc)
  have hLn : L.length = n := by
    rcases k2.2 with ⟨e, _⟩ | ⟨g', cap, cur, e, _⟩
    · cases e
    · injection e with _ e _
      exact e.symm
  refine ⟨_, ?_, ⟨vs.set i (.slice ua un uc), by rw [List.length_set, List.length_set, k1], ?_, fun j hj => ?_⟩, k⟩
  · clear k k1 k2 k3
    go_simp
  · rw [List.length_set]
    rcases k2.2 with ⟨e, _⟩ | ⟨g', cap, cur, e, hb, hg, hc, hm, hsz, htk⟩
    · cases e
    · injection e with e1 e2 e3
      injection e1 with e1
      injection e1 with e1
      subst e1 e3
      refine ⟨by rw [List.length_set, k1, Nat.mul_one], .inr ⟨g, c, _, by rw [hLn], hb, Own.store (show Own w g 29 cur from hg) i (.slice ua un uc), hc, hm, by simpa using hsz, ?_⟩⟩
      rw [Array.toList_setIfInBounds, gtake_set, htk]
  · rw [List.length_set] at hj
    have e1 : (vs.set i (.slice ua un uc)).getD j undef = if j = i then .slice ua un uc else vs.getD j undef := by
      by_cases hji : j = i
      · subst hji
        rw [if_pos rfl, List.getD_eq_getElem?_getD, List.getElem?_set_self (by omega)]
        rfl
      · rw [if_neg hji, List.getD_eq_getElem?_getD, List.getElem?_set_ne (fun e => hji e.symm), ← List.getD_eq_getElem?_getD]
    have e2 : (L.set i l).getD j [] = if j = i then l else L.getD j [] := by
      by_cases hji : j = i
      · subst hji
        rw [if_pos rfl, List.getD_eq_getElem?_getD, List.getElem?_set_self (by omega)]
        rfl
      · rw [if_neg hji, List.getD_eq_getElem?_getD, List.getElem?_set_ne (fun e => hji e.symm), ← List.getD_eq_getElem?_getD]
    rw [e1, e2]
    split
    · exact World.ownsRow.kept hrow k (apart_rows hrow k2 (by decide))
    · exact World.ownsRow.kept (k3 j hj) k (apart_rows (k3 j hj) k2 (by decide))
end
end Go.Proofs.YtlhcehealjdbdaaDoor
