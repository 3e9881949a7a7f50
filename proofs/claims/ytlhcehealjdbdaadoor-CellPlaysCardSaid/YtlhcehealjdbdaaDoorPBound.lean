/- Where pieces stood: bounds; what the document's loops leave. -/
import Derived.Test.YtlhcehealjdbdaaDoorPieces
namespace Go.Proofs.YtlhcehealjdbdaaDoor
open Go.RowKit
set_option linter.unusedSimpArgs false
set_option linter.unusedVariables false

theorem bound_pieces {xs : List Glyph} (h8 : xs.length ≤ 80) : ∀ i, i < xs.length → -100 ≤ (pat (piecesP xs) i).s ∧ (pat (piecesP xs) i).s ≤ 1000 := fun i hi => by
  rw [pieces_pt hi]
  simp only
  omega
theorem bound_set {xs : List Glyph} {ps : List Pc} {k : Nat} {d : Pc} (hl : ps.length = xs.length) (hk : k < xs.length) (hd : -100 ≤ d.s ∧ d.s ≤ 1000) (h : ∀ i, i < xs.length → -100 ≤ (pat (ps) i).s ∧ (pat (ps) i).s ≤ 1000) : ∀ i, i < xs.length → -100 ≤ (pat (ps.set k d) i).s ∧ (pat (ps.set k d) i).s ≤ 1000 := fun i hi => by
  rw [pset (by omega)]
  split
  · exact hd
  · exact h i hi
theorem bound_erase {xs : List Glyph} {s t b : Int} {k : Nat} (h8 : xs.length ≤ 80) : ∀ i, i < xs.length → -100 ≤ (pat (erasePk xs s t b k) i).s ∧ (pat (erasePk xs s t b k) i).s ≤ 1000 := fun i hi => by
  rw [erasePk_pt hi]
  split
  · show -100 ≤ (-10 : Int) ∧ (-10 : Int) ≤ 1000
    omega
  · simp only
    omega
theorem erase_in {xs : List Glyph} {s t b : Int} {k : Nat} (hk : k < xs.length) (h : s ≤ k ∧ (k : Int) < t) : (erasePk xs s t b k).set k ⟨blank b, -10⟩ = erasePk xs s t b (k + 1) := by
  refine pext (by rw [List.length_set, erasePk_len, erasePk_len]) fun j hj => ?_
  rw [List.length_set, erasePk_len] at hj
  rw [pset (by rw [erasePk_len]; exact hk), erasePk_pt hj, erasePk_pt hj]
  by_cases h1 : j = k
  · rw [if_pos h1, if_pos (by omega)]
  · rw [if_neg h1]
    by_cases h2 : j < k ∧ s ≤ j ∧ (j : Int) < t
    · rw [if_pos h2, if_pos (by omega)]
    · rw [if_neg h2, if_neg (by omega)]
theorem erase_out {xs : List Glyph} {s t b : Int} {k : Nat} (h : ¬ (s ≤ k ∧ (k : Int) < t)) : erasePk xs s t b (k + 1) = erasePk xs s t b k := by
  unfold erasePk
  refine List.map_congr_left fun i _ => ?_
  by_cases h2 : i < k ∧ s ≤ i ∧ (i : Int) < t
  · rw [if_pos h2, if_pos (by omega)]
  · rw [if_neg h2, if_neg (fun q => h2 (by
      rcases (by omega : i < k ∨ i = k) with e | e
      · exact ⟨e, q.2⟩
      · subst e
        exact absurd q.2 h))]
theorem take_one {ps : List Pc} {k : Nat} (h : k < ps.length) : ps.take k ++ [pat ps k] = ps.take (k + 1) := by
  rw [List.take_add_one, List.getElem?_eq_getElem h]
  unfold pat
  rw [List.getD_eq_getElem?_getD, List.getElem?_eq_getElem h]
  rfl
theorem drop_pat {ps : List Pc} {k i : Nat} : pat (ps.drop k) i = pat ps (k + i) := by
  unfold pat
  rw [List.getD_eq_getElem?_getD, List.getElem?_drop, ← List.getD_eq_getElem?_getD]
theorem rep_one {k : Nat} {p : Pc} : List.replicate k p ++ [p] = List.replicate (k + 1) p := (List.replicate_succ' ..).symm
/-- What Insert's loops have built: behind the copy and q blanks; behind the blanks and q cells of the rest. -/
def insA (xs : List Glyph) (k : Nat) (b : Int) (q : Nat) : List Pc := (piecesP xs).take k ++ List.replicate q (newPc b)
def insB (xs : List Glyph) (k : Nat) (b : Int) (j q : Nat) : List Pc := insA xs k b j ++ ((piecesP xs).drop k).take q
theorem insA_len {xs : List Glyph} {k : Nat} {b : Int} {q : Nat} (h : k ≤ xs.length) : (insA xs k b q).length = k + q := by
  unfold insA
  rw [List.length_append, List.length_take, pieces_len, List.length_replicate]
  omega
theorem insB_len {xs : List Glyph} {k : Nat} {b : Int} {j q : Nat} (h : k + q ≤ xs.length) : (insB xs k b j q).length = k + j + q := by
  unfold insB
  rw [List.length_append, insA_len (by omega), List.length_take, List.length_drop, pieces_len]
  omega
theorem insA_zero {xs : List Glyph} {k : Nat} {b : Int} : (piecesP xs).take k = insA xs k b 0 := by unfold insA; simp
theorem insA_next {xs : List Glyph} {k : Nat} {b : Int} {q : Nat} : insA xs k b q ++ [newPc b] = insA xs k b (q + 1) := by
  unfold insA
  rw [List.append_assoc, rep_one]
theorem insB_zero {xs : List Glyph} {k : Nat} {b : Int} {j : Nat} : insA xs k b j = insB xs k b j 0 := by unfold insB; simp
theorem insB_next {xs : List Glyph} {k : Nat} {b : Int} {j q : Nat} (h : k + q < xs.length) : insB xs k b j q ++ [pat (piecesP xs) (k + q)] = insB xs k b j (q + 1) := by
  unfold insB
  rw [List.append_assoc, ← drop_pat, take_one (by rw [List.length_drop, pieces_len]; omega)]
theorem insB_all {xs : List Glyph} {k j : Nat} {b x n : Int} (hx : x = k) (hj : min n (xs.length - k) = j) : insB xs k b j (xs.length - k - j) = insertPc xs x n b := by
  subst hx
  unfold insB insA insertPc
  rw [hj, Int.toNat_natCast, Int.toNat_natCast]
/-- What Delete's loops have built: behind q places looked at; behind the rest and q blanks. -/
def delA (xs : List Glyph) (k j q : Nat) : List Pc := (piecesP xs).take k ++ ((piecesP xs).drop (k + j)).take (q - j)
def delB (xs : List Glyph) (k : Nat) (b : Int) (j q : Nat) : List Pc := delA xs k j (xs.length - k) ++ List.replicate q (newPc b)
theorem delA_len {xs : List Glyph} {k j q : Nat} (h : k + q ≤ xs.length) : (delA xs k j q).length = k + (q - j) := by
  unfold delA
  rw [List.length_append, List.length_take, List.length_take, List.length_drop, pieces_len]
  omega
theorem delB_len {xs : List Glyph} {k j q : Nat} {b : Int} (h : k + j ≤ xs.length) : (delB xs k b j q).length = xs.length - j + q := by
  unfold delB
  rw [List.length_append, delA_len (by omega), List.length_replicate]
  omega
theorem delA_zero {xs : List Glyph} {k j : Nat} : (piecesP xs).take k = delA xs k j 0 := by unfold delA; simp
theorem delA_skip {xs : List Glyph} {k j q : Nat} (h : q < j) : delA xs k j (q + 1) = delA xs k j q := by
  unfold delA
  rw [show q + 1 - j = 0 from by omega, show q - j = 0 from by omega]
theorem delA_next {xs : List Glyph} {k j q : Nat} (h : k + q < xs.length) (hj : j ≤ q) : delA xs k j q ++ [pat (piecesP xs) (k + q)] = delA xs k j (q + 1) := by
  unfold delA
  rw [List.append_assoc, show k + q = k + j + (q - j) from by omega, ← drop_pat, take_one (by rw [List.length_drop, pieces_len]; omega), show q - j + 1 = q + 1 - j from by omega]
theorem delB_zero {xs : List Glyph} {k j : Nat} {b : Int} : delA xs k j (xs.length - k) = delB xs k b j 0 := by unfold delB; simp
theorem delB_next {xs : List Glyph} {k j q : Nat} {b : Int} : delB xs k b j q ++ [newPc b] = delB xs k b j (q + 1) := by
  unfold delB
  rw [List.append_assoc, rep_one]
theorem delB_all {xs : List Glyph} {k j : Nat} {b x n : Int} (hx : x = k) (hj : min n (xs.length - k) = j) : delB xs k b j j = deletePc xs x n b := by
  subst hx
  unfold delB delA deletePc
  rw [hj, Int.toNat_natCast, Int.toNat_natCast, List.take_of_length_le (l := (piecesP xs).drop (k + j)) (by rw [List.length_drop, pieces_len]; omega)]
theorem bound_new {b : Int} : -100 ≤ (newPc b).s ∧ (newPc b).s ≤ 1000 := by
  show -100 ≤ (-10 : Int) ∧ (-10 : Int) ≤ 1000
  omega
theorem bound_insert {xs : List Glyph} {x n b : Int} {k j : Nat} (h8 : xs.length ≤ 80) (hx : x = k) (hj : min n (xs.length - k) = j) (hk : k < xs.length) (hkj : k + j ≤ xs.length) : ∀ i, i < xs.length → -100 ≤ (pat (insertPc xs x n b) i).s ∧ (pat (insertPc xs x n b) i).s ≤ 1000 := fun i hi => by
  rw [(insert_pcs hx hj hk hkj).2 i hi]
  split
  · simp only
    omega
  · split
    · exact bound_new
    · simp only
      omega
theorem bound_delete {xs : List Glyph} {x n b : Int} {k j : Nat} (h8 : xs.length ≤ 80) (hx : x = k) (hj : min n (xs.length - k) = j) (hk : k < xs.length) (hkj : k + j ≤ xs.length) : ∀ i, i < xs.length → -100 ≤ (pat (deletePc xs x n b) i).s ∧ (pat (deletePc xs x n b) i).s ≤ 1000 := fun i hi => by
  rw [(delete_pcs hx hj hk hkj).2 i hi]
  split
  · simp only
    omega
  · split
    · simp only
      omega
    · exact bound_new
/-- A row of pieces under way, the row as it stood, and the pen, behind what was called. -/
def PRel (w : World) (lo sb g pc : Nat) (xs : List Glyph) (f b d l : Int) (ps : List Pc) (vo : Value) (wr : World) : Prop :=
  PRow wr lo vo ps ∧ PRow wr sb (.slice (some ⟨g, 0, none⟩) xs.length pc) (piecesP xs) ∧ Own wr w.heap.size 26 #[.int .u32 f, .int .u32 b, .int .u8 d, .int .u16 l] ∧ Below w.heap.size w wr ∧ lo ≤ wr.heap.size
section
variable {w wr w2 : World} {lo sb g pc : Nat} {xs : List Glyph} {f b d l : Int} {ps : List Pc} {vo : Value}
theorem PRel.below (h : PRel w lo sb g pc xs f b d l ps vo wr) (k : Below wr.heap.size wr w2) (hw : w.heap.size < lo) : PRel w lo sb g pc xs f b d l ps vo w2 :=
  ⟨h.1.below k, h.2.1.below k, h.2.2.1.below k (Nat.lt_of_lt_of_le hw h.2.2.2.2), h.2.2.2.1.trans (k.mono h.2.2.2.1.size), Nat.le_trans h.2.2.2.2 k.size⟩
theorem PRel.app {qs : List Pc} {v : Value} (h : PRel w lo sb g pc xs f b d l ps vo wr) (hr : PRow w2 lo v qs) (k : Below lo wr w2) (hw : w.heap.size < lo) (hg : g < lo) : PRel w lo sb g pc xs f b d l qs v w2 :=
  ⟨hr, h.2.1.keep k hg, h.2.2.1.below k hw, h.2.2.2.1.trans (k.mono (Nat.le_of_lt hw)), Nat.le_trans h.2.2.2.2 k.size⟩
theorem PRel.alloc (h : PRel w lo sb g pc xs f b d l ps vo wr) (hw : w.heap.size < lo) (o : Obj) : PRel w lo sb g pc xs f b d l ps vo (wr.alloc o) := h.below ((Below.refl _ _).alloc (Nat.le_refl _) o) hw
end
end Go.Proofs.YtlhcehealjdbdaaDoor
