/- A screen's cells: as data, as they lie in memory, and rows of them that the caller made. -/
import Derived.Test.YtlhcehealjdbdaaDoorMem
import Derived.Test.YtlhcehealjdbdaaDoorChecked
import Derived.Test.YtlhcehealjdbdaaDoorReg
import Derived.OwnWalk
import Derived.Laws.AppendOwn
import Derived.Laws.AppendOwnNone
import Derived.WalkKit
namespace Go.Proofs.YtlhcehealjdbdaaDoor
open Go.RowKit
/-- A cell: rune, width, colours, looks, link. -/
structure Glyph where
  r : Int
  w : Int
  f : Int
  b : Int
  a : Int
  l : Int
  deriving DecidableEq
def g0 : Glyph := ⟨0, 0, 0, 0, 0, 0⟩
def Glyph.cells (c : Glyph) : List Value := [.int .i32 c.r, .int .u8 c.w, .int .u32 c.f, .int .u32 c.b, .int .u8 c.a, .int .u16 c.l]
def flat : List Glyph → List Value
  | [] => []
  | c :: cs => c.cells ++ flat cs
theorem flat_len (xs : List Glyph) : (flat xs).length = xs.length * 6 := by
  induction xs with
  | nil => rfl
  | cons c cs ih => simp [flat, Glyph.cells, ih]; omega
theorem flat_app (xs ys : List Glyph) : flat (xs ++ ys) = flat xs ++ flat ys := by
  induction xs with
  | nil => rfl
  | cons c cs ih => simp [flat, ih]
theorem flat_at : ∀ {xs : List Glyph} {i j : Nat}, i < xs.length → j < 6 → (flat xs)[i * 6 + j]? = (xs.getD i g0).cells[j]?
  | [], _, _, h, _ => absurd h (by simp)
  | c :: cs, 0, j, _, hj => by
    simp only [flat, Nat.zero_mul, Nat.zero_add, List.getD_cons_zero]
    rw [List.getElem?_append_left (by simpa [Glyph.cells] using hj)]
  | c :: cs, i + 1, j, h, hj => by
    have h6 : c.cells.length = 6 := rfl
    simp only [flat, List.getD_cons_succ]
    rw [List.getElem?_append_right (by omega), h6, show (i + 1) * 6 + j - 6 = i * 6 + j from by omega]
    exact flat_at (by simpa using h) hj
theorem flat_one (xs : List Glyph) : ∀ u ∈ flat xs, u.oneCell' = true := by
  induction xs with
  | nil => simp [flat]
  | cons c cs ih =>
    intro u hu
    rcases List.mem_append.1 hu with h | h
    · simp only [Glyph.cells, List.mem_cons, List.not_mem_nil, or_false] at h
      rcases h with rfl | rfl | rfl | rfl | rfl | rfl <;> rfl
    · exact ih u h
theorem flat_set : ∀ {xs : List Glyph} {i j : Nat} {c : Glyph} {u : Value}, i < xs.length → j < 6 → (xs.getD i g0).cells.set j u = c.cells → (flat xs).set (i * 6 + j) u = flat (xs.set i c)
  | [], _, _, _, _, h, _, _ => absurd h (by simp)
  | d :: cs, 0, j, c, u, _, hj, hc => by
    simp only [List.getD_cons_zero] at hc
    simp only [flat, Nat.zero_mul, Nat.zero_add, List.set_cons_zero]
    rw [List.set_append_left _ _ (by simpa [Glyph.cells] using hj), hc]
  | d :: cs, i + 1, j, c, u, h, hj, hc => by
    have h6 : d.cells.length = 6 := rfl
    simp only [List.getD_cons_succ] at hc
    simp only [flat, List.set_cons_succ]
    rw [List.set_append_right _ _ (by omega), h6, show (i + 1) * 6 + j - 6 = i * 6 + j from by omega, flat_set (by simpa using h) hj hc]
/-- The cell lies there. -/
def GAt (w : World) (b o : Nat) (c : Glyph) : Prop :=
  w.cell? ⟨b, o, none⟩ = some (.int .i32 c.r) ∧ w.cell? ⟨b, o + 1, none⟩ = some (.int .u8 c.w) ∧ w.cell? ⟨b, o + 2, none⟩ = some (.int .u32 c.f) ∧
  w.cell? ⟨b, o + 3, none⟩ = some (.int .u32 c.b) ∧ w.cell? ⟨b, o + 4, none⟩ = some (.int .u8 c.a) ∧ w.cell? ⟨b, o + 5, none⟩ = some (.int .u16 c.l)
/-- The slice's elements are xs. -/
def Cells (w : World) (a : Option Addr) (n : Nat) (xs : List Glyph) : Prop :=
  xs.length = n ∧ n ≤ 9223372036854775807 ∧ (0 < n → ∃ b off, a = some ⟨b, off, none⟩ ∧ b < w.heap.size ∧ ∀ i, i < n → GAt w b (off + i * 6) (xs.getD i g0))
theorem GAt.same {w w' : World} {b o : Nat} {c : Glyph} (h : GAt w b o c) (k : ∀ p : Addr, p.block = b → w'.cell? p = w.cell? p) : GAt w' b o c :=
  ⟨(k _ rfl).trans h.1, (k _ rfl).trans h.2.1, (k _ rfl).trans h.2.2.1, (k _ rfl).trans h.2.2.2.1, (k _ rfl).trans h.2.2.2.2.1, (k _ rfl).trans h.2.2.2.2.2⟩
theorem Cells.none {w : World} {a : Option Addr} : Cells w a 0 [] := ⟨rfl, by omega, fun h => absurd h (by omega)⟩
theorem Cells.below {w w' : World} {a : Option Addr} {n : Nat} {xs : List Glyph} (h : Cells w a n xs) (hb : Below w.heap.size w w') : Cells w' a n xs := by
  refine ⟨h.1, h.2.1, fun h0 => ?_⟩
  obtain ⟨b, off, he, hb', hc⟩ := h.2.2 h0
  exact ⟨b, off, he, Nat.lt_of_lt_of_le hb' hb.size, fun i hi => (hc i hi).same fun p hp => hb.cell (by omega)⟩
theorem Cells.alloc {w : World} {a : Option Addr} {n : Nat} {xs : List Glyph} (h : Cells w a n xs) (o : Obj) : Cells (w.alloc o) a n xs := h.below ((Below.refl _ _).alloc (Nat.le_refl _) o)
theorem Cells.draws {w : World} {a : Option Addr} {n : Nat} {xs : List Glyph} (h : Cells w a n xs) (m : Nat) : Cells (w.drewN m) a n xs := h
/-- A row of cells of the caller's own. -/
def CRow (w : World) (base : Nat) (v : Value) (xs : List Glyph) : Prop := w.ownsRow base 28 6 v xs.length (flat xs)
section
variable {w w' : World} {base : Nat} {v : Value} {xs : List Glyph}
theorem CRow.nil (w : World) (base : Nat) : CRow w base (.slice none 0 0) [] := World.ownsRow_nil w base 28 6
theorem CRow.up (h : CRow w base v xs) {b : Nat} (hb : b ≤ base) : CRow w b v xs := by
  refine ⟨h.1, ?_⟩
  rcases h.2 with hn | ⟨g, cap, cur, h1, h2, h3⟩
  · exact .inl hn
  · exact .inr ⟨g, cap, cur, h1, Nat.le_trans hb h2, h3⟩
theorem CRow.below (h : CRow w base v xs) (hb : Below w.heap.size w w') : CRow w' base v xs := by
  refine ⟨h.1, ?_⟩
  rcases h.2 with hn | ⟨g, cap, cur, h1, h2, h3, h4⟩
  · exact .inl hn
  · exact .inr ⟨g, cap, cur, h1, h2, (hb.block g (Array.getElem?_eq_some_iff.1 h3).1).trans h3, h4⟩
theorem CRow.draws (h : CRow w base v xs) (m : Nat) : CRow (w.drewN m) base v xs := h
theorem CRow.alloc (h : CRow w base v xs) (o : Obj) : CRow (w.alloc o) base v xs := World.ownsRow.alloc h o
theorem crow_len {a : Option Addr} {n c : Nat} (h : CRow w base (.slice a n c) xs) : xs.length = n := by
  rcases h.2 with ⟨h1, h2⟩ | ⟨g, cap, cur, h1, _⟩
  · injection h1 with _ h1 _
    omega
  · injection h1 with _ h1 _
    exact h1.symm
theorem crow_addr {a : Option Addr} {n c : Nat} (h : CRow w base (.slice a n c) xs) (h0 : 0 < n) : ∃ g, a = some ⟨g, 0, none⟩ := by
  rcases h.2 with ⟨h1, h2⟩ | ⟨g, cap, cur, h1, _⟩
  · injection h1 with _ h1 _
    omega
  · injection h1 with h1 _ _
    exact ⟨g, h1⟩
theorem gplain_add (g j : Nat) : (⟨g, 0, none⟩ : Addr).add j = ⟨g, j, none⟩ := by unfold Addr.add; split <;> simp_all
theorem CRow.cells (h : CRow w base v xs) : ∃ a c, v = .slice a xs.length c ∧ Cells w a xs.length xs := by
  rcases h.2 with ⟨h1, h2⟩ | ⟨g, cap, cur, h1, h2, h3, h4, h5, _⟩
  · exact ⟨none, 0, by rw [h1, h2], rfl, by omega, fun h0 => by omega⟩
  · refine ⟨_, cap, h1, rfl, by unfold maxLen at h5; omega, fun h0 => ⟨g, 0, rfl, (Array.getElem?_eq_some_iff.1 h3).1, fun i hi => ?_⟩⟩
    have key : ∀ j u, j < 6 → (xs.getD i g0).cells[j]? = some u → w.cell? ⟨g, i * 6 + j, none⟩ = some u := fun j u hj hu => by
      have := World.ownsRow.cells h (g := g) (by rw [h1]; rfl) (i * 6 + j) u ((flat_at hi hj).trans hu)
      rwa [gplain_add] at this
    rw [Nat.zero_add]
    exact ⟨key 0 _ (by omega) rfl, key 1 _ (by omega) rfl, key 2 _ (by omega) rfl, key 3 _ (by omega) rfl, key 4 _ (by omega) rfl, key 5 _ (by omega) rfl⟩
theorem cells_of {a : Option Addr} {n c : Nat} (h : CRow w base (.slice a n c) xs) : Cells w a n xs := by
  obtain ⟨a', c', h1, h2⟩ := h.cells
  injection h1 with h3 h4 h5
  subst h3 h4
  exact h2
theorem crow_at {g n c k : Nat} (h : CRow w base (.slice (some ⟨g, 0, none⟩) n c) xs) (hk : k < n) : GAt w g (k * 6) (xs.getD k g0) ∧ base ≤ g ∧ ∀ j, w.frozen? ⟨g, j, none⟩ = false := by
  have h1 := cells_of h
  obtain ⟨b, off, he, _, hc⟩ := h1.2.2 (by omega)
  injection he with he
  injection he with h2 h3
  subst h2 h3
  have := hc k hk
  rw [Nat.zero_add] at this
  refine ⟨this, ?_⟩
  rcases h.2 with ⟨h1, _⟩ | ⟨g', cap, cur, h1, h2, h3, _⟩
  · cases h1
  · injection h1 with h0 h1 h8
    injection h0 with h0
    injection h0 with h0
    subst h0
    have ho : Own w g 28 cur := h3
    exact ⟨h2, fun j => Own.frozen ho j⟩
theorem gtake_set (L : List Value) (m k : Nat) (u : Value) : (L.set k u).take m = (L.take m).set k u := by
  refine List.ext_getElem? fun j => ?_
  rw [List.getElem?_take, List.getElem?_set, List.getElem?_set, List.getElem?_take, List.length_take]
  by_cases h1 : j < m
  · rw [if_pos h1, if_pos h1]
    by_cases h2 : k = j
    · rw [if_pos h2, if_pos h2]
      by_cases h3 : k < L.length
      · rw [if_pos h3, if_pos (by omega)]
      · rw [if_neg h3, if_neg (by omega)]
    · rw [if_neg h2, if_neg h2]
  · rw [if_neg h1, if_neg h1]
    by_cases h2 : k = j
    · rw [if_pos h2, if_neg (by omega)]
    · rw [if_neg h2]
/-- One value of one cell is stored. -/
theorem crow_put {g n c k j : Nat} {d : Glyph} {u : Value} (h : CRow w base (.slice (some ⟨g, 0, none⟩) n c) xs) (hk : k < n) (hj : j < 6) (hd : (xs.getD k g0).cells.set j u = d.cells) :
    CRow (w.setCell ⟨g, k * 6 + j, none⟩ u) base (.slice (some ⟨g, 0, none⟩) n c) (xs.set k d) := by
  have hz := crow_len h
  rcases h.2 with ⟨h1, _⟩ | ⟨g', cap, cur, h1, h2, h3, h4, h5, h6, h7⟩
  · cases h1
  · injection h1 with h0 h1 h8
    injection h0 with h0
    injection h0 with h0
    subst h0 h8
    have ho : Own w g 28 cur := h3
    refine ⟨by rw [flat_len], .inr ⟨g, c, _, by rw [List.length_set, hz], h2, ho.store (k * 6 + j) u, by rw [List.length_set]; omega, h5, by simp; omega, ?_⟩⟩
    rw [List.length_set, hz]
    rw [hz] at h7
    rw [Array.toList_setIfInBounds, gtake_set, h7]
    exact flat_set (by omega) hj hd
theorem set_getD {k : Nat} {d : Glyph} (h : k < xs.length) : (xs.set k d).getD k g0 = d := by
  rw [List.getD_eq_getElem?_getD, List.getElem?_set_self h]
  rfl
/-- A whole cell is stored. -/
theorem crow_set {g n c k : Nat} (d : Glyph) (h : CRow w base (.slice (some ⟨g, 0, none⟩) n c) xs) (hk : k < n) :
    CRow ((((((w.setCell ⟨g, k * 6, none⟩ (.int .i32 d.r)).setCell ⟨g, k * 6 + 1, none⟩ (.int .u8 d.w)).setCell ⟨g, k * 6 + 2, none⟩ (.int .u32 d.f)).setCell ⟨g, k * 6 + 3, none⟩ (.int .u32 d.b)).setCell ⟨g, k * 6 + 4, none⟩ (.int .u8 d.a)).setCell ⟨g, k * 6 + 5, none⟩ (.int .u16 d.l)) base (.slice (some ⟨g, 0, none⟩) n c) (xs.set k d) := by
  have hz := crow_len h
  obtain ⟨e, he⟩ : ∃ e, xs.getD k g0 = e := ⟨_, rfl⟩
  have h0 := crow_put (j := 0) (d := ⟨d.r, e.w, e.f, e.b, e.a, e.l⟩) (u := .int .i32 d.r) h hk (by omega) (by rw [he]; rfl)
  have h1 := crow_put (j := 1) (d := ⟨d.r, d.w, e.f, e.b, e.a, e.l⟩) (u := .int .u8 d.w) h0 hk (by omega) (by rw [set_getD (by omega)]; rfl)
  rw [List.set_set] at h1
  have h2 := crow_put (j := 2) (d := ⟨d.r, d.w, d.f, e.b, e.a, e.l⟩) (u := .int .u32 d.f) h1 hk (by omega) (by rw [set_getD (by omega)]; rfl)
  rw [List.set_set] at h2
  have h3 := crow_put (j := 3) (d := ⟨d.r, d.w, d.f, d.b, e.a, e.l⟩) (u := .int .u32 d.b) h2 hk (by omega) (by rw [set_getD (by omega)]; rfl)
  rw [List.set_set] at h3
  have h4 := crow_put (j := 4) (d := ⟨d.r, d.w, d.f, d.b, d.a, e.l⟩) (u := .int .u8 d.a) h3 hk (by omega) (by rw [set_getD (by omega)]; rfl)
  rw [List.set_set] at h4
  have h5 := crow_put (j := 5) (d := d) (u := .int .u16 d.l) h4 hk (by omega) (by rw [set_getD (by omega)]; rfl)
  rw [List.set_set] at h5
  exact h5
theorem crow_kept {g i : Nat} (h : CRow w base v xs) (hg : g < base) (u : Value) : CRow (w.setCell ⟨g, i, none⟩ u) base v xs := by
  refine World.ownsRow.kept h (turn_store (turn_refl w _) i u) (.inr fun e => ?_)
  have := (World.ownsRow.lt h g e).1
  omega
end
theorem below_set6 {B g : Nat} {a w : World} (h : Below B a w) (hg : B ≤ g) (o0 o1 o2 o3 o4 o5 : Nat) (u0 u1 u2 u3 u4 u5 : Value) :
    Below B a ((((((w.setCell ⟨g, o0, none⟩ u0).setCell ⟨g, o1, none⟩ u1).setCell ⟨g, o2, none⟩ u2).setCell ⟨g, o3, none⟩ u3).setCell ⟨g, o4, none⟩ u4).setCell ⟨g, o5, none⟩ u5) :=
  (((((h.setCell (p := ⟨g, o0, none⟩) hg u0).setCell (p := ⟨g, o1, none⟩) hg u1).setCell (p := ⟨g, o2, none⟩) hg u2).setCell (p := ⟨g, o3, none⟩) hg u3).setCell (p := ⟨g, o4, none⟩) hg u4).setCell (p := ⟨g, o5, none⟩) hg u5
theorem ginfoE : Tryd.prog.info? 28 = some Tryd.t28 := by kernel_rfl
theorem gzeroE : Tryd.t28.zero = some (.agg #[.int .i32 0, .int .u8 0, .int .u32 0, .int .u32 0, .int .u8 0, .int .u16 0]) := by kernel_rfl
end Go.Proofs.YtlhcehealjdbdaaDoor
