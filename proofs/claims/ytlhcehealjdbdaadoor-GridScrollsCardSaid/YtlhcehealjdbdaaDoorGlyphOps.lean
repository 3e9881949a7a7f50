/- Rows of cells copied: the laws of copy and append at elements of several values, and the functions that copy and compare. -/
import Derived.Test.YtlhcehealjdbdaaDoorGlyph
import Derived.Laws.CopyOwn
import Derived.Laws.CopyRow
import Derived.Laws.IdiomCopy
import Derived.Lib.BufferMore
import Derived.WalkSpells
import Derived.WalkLawsBesides
import Derived.Lib.Hide
import Derived.Deep.Draws
namespace Go.Proofs.YtlhcehealjdbdaaDoor
open Go.RowKit
attribute [local go_sem] alloc_drewN setCell_drewN

section
variable {P : Program}
theorem run_copy_rows (w : World) (dT sT ty elem : TypeId) (g o dLen dCap : Nat) (a : Addr) (sLen sCap : Nat) (cur : Array Value) (t : TypeId) (cs : List Value) (size m : Nat)
    (hu : P.underlying dT = some (.slice elem)) (hs : (P.info? elem).map (·.size) = some size)
    (hg : w.heap[g]? = some (.cells cur t (0, 0))) (hm : m = Nat.min sLen dLen) (hn : cs.length = m * size)
    (hsrc : ∀ j v, cs[j]? = some v → w.cell? (a.add j) = some v) (hfit : o + cs.length ≤ cur.size) (h1 : ∀ v ∈ cs, v.oneCell' = true) :
    (Builtin.copy_ #[dT, sT] ty #[.slice (some ⟨g, o, none⟩) dLen dCap, .slice (some a) sLen sCap]).run P w =
      .ok (goInt m) (w.setRow g (cur.toList.take o ++ cs ++ cur.toList.drop (o + cs.length)).toArray) := by
  have hl := run_loadCells_list (P := P) w a cs hsrc
  have hst := run_storeCells_at P g o t cs 0 cur w hg (by simpa using hfit) h1
  cases hq : P.info? elem with
  | none => simp [hq] at hs
  | some i =>
    have hi : i.size = size := by simpa [hq] using hs
    simp [Builtin.copy_, run_underlying hu, Builtin.lenOf, Builtin.firstCells, sizeOf, typeInfo, hq, hi, ← hm, ← hn, hl, hst]
theorem run_copy_zero (w : World) (dT sT ty elem : TypeId) (d a : Option Addr) (dLen dCap sLen sCap : Nat) (size : Nat) (hu : P.underlying dT = some (.slice elem)) (hs : (P.info? elem).map (·.size) = some size) (hn : Nat.min sLen dLen = 0) :
    (Builtin.copy_ #[dT, sT] ty #[.slice d dLen dCap, .slice a sLen sCap]).run P w = .ok (goInt 0) w := by
  cases hq : P.info? elem with
  | none => simp [hq] at hs
  | some i =>
    have hl : ∀ (x : Addr), (loadCells x 0).run P w = .ok #[] w := fun x => by simpa using run_loadCells_list (P := P) w x [] (by simp)
    cases d <;> cases a <;> simp [Builtin.copy_, run_underlying hu, Builtin.lenOf, Builtin.firstCells, sizeOf, typeInfo, hq, hn, storeCells, hl]
/-- A copy into a block that is known whole: the values are laid over it. -/
theorem gcopy_op {o : Oper} {a : Act} {w : World} {K : Act → World → Prop} {Q : Exit → Act → World → Prop} (d s : Operand) (dT sT : TypeId)
    (ho : o.op = .call { callee := .builtin .copy, args := #[d, s], argTypes := #[dT, sT] }) (elem : TypeId) (size : Nat) (hu : P.underlying dT = some (.slice elem)) (hsz : (P.info? elem).map (·.size) = some size)
    (dp sp : Option Addr) (dLen dCap sLen sCap : Nat) (hd : a.eval d = .slice dp dLen dCap) (hs : a.eval s = .slice sp sLen sCap)
    (g off : Nat) (cur : List Value) (t : TypeId) (hg : w.heap[g]? = some (.cells cur.toArray t (0, 0))) (cs : List Value) (m : Nat) (hm : m = Nat.min sLen dLen) (hn : cs.length = m * size)
    (hpos : 0 < m → dp = some ⟨g, off, none⟩ ∧ ∃ ad, sp = some ad ∧ ∀ j v, cs[j]? = some v → w.cell? (ad.add j) = some v)
    (hfit : off + cs.length ≤ cur.length) (h1 : ∀ v ∈ cs, v.oneCell' = true) (B : Nat) (w0 : World) (hb : Below B w0 w) (hBg : B ≤ g)
    (h : ∀ w', Hid (w'.heap[g]? = some (.cells (splice cur off cs).toArray t (0, 0))) → Below B w0 w' → Hid (w.grownBy w' (some g)) → K (a.put o.dst (goInt m)) w') :
    Oper.wp P o a w K Q := by
  by_cases h0 : m = 0
  · subst h0
    obtain rfl : cs = [] := List.eq_nil_of_length_eq_zero (by omega)
    have hrun := run_copy_zero (P := P) w dT sT o.type elem dp sp dLen dCap sLen sCap size hu hsz hm.symm
    unfold Oper.wp
    simp [execOp, ho, resolve, invoke, builtin, hd, hs, hrun, Result.andThen]
    exact h w (show _ = _ by simpa [splice] using hg) hb (turn_refl w _)
  · obtain ⟨rfl, ad, rfl, hsrc⟩ := hpos (by omega)
    have hrun := run_copy_rows (P := P) w dT sT o.type elem g off dLen dCap ad sLen sCap cur.toArray t cs size m hu hsz hg hm hn hsrc (by simpa using hfit) h1
    unfold Oper.wp
    simp [execOp, ho, resolve, invoke, builtin, hd, hs, hrun, Result.andThen]
    refine h _ (show _ = _ by simpa [splice] using setRow_heap w g _ _ t _ hg) (below_setRow hb hBg _) ?_
    exact ⟨rfl, rfl, rfl, by simp [World.setRow], fun k hk hne => setRow_other w g k _ (by rintro rfl; exact hne rfl)⟩
theorem gcopy_list {ops : Array Oper} {rest : List Oper} {o : Oper} {a : Act} {w : World} {Q : Exit → Act → World → Prop} (hgd : o.guard = none) (d s : Operand) (dT sT : TypeId)
    (ho : o.op = .call { callee := .builtin .copy, args := #[d, s], argTypes := #[dT, sT] }) (elem : TypeId) (size : Nat) (hu : P.underlying dT = some (.slice elem)) (hsz : (P.info? elem).map (·.size) = some size)
    (dp sp : Option Addr) (dLen dCap sLen sCap : Nat) (hd : a.eval d = .slice dp dLen dCap) (hs : a.eval s = .slice sp sLen sCap)
    (g off : Nat) (cur : List Value) (t : TypeId) (hg : w.heap[g]? = some (.cells cur.toArray t (0, 0))) (cs : List Value) (m : Nat) (hm : m = Nat.min sLen dLen) (hn : cs.length = m * size)
    (hpos : 0 < m → dp = some ⟨g, off, none⟩ ∧ ∃ ad, sp = some ad ∧ ∀ j v, cs[j]? = some v → w.cell? (ad.add j) = some v)
    (hfit : off + cs.length ≤ cur.length) (h1 : ∀ v ∈ cs, v.oneCell' = true) (B : Nat) (w0 : World) (hb : Below B w0 w) (hBg : B ≤ g)
    (h : ∀ w', Hid (w'.heap[g]? = some (.cells (splice cur off cs).toArray t (0, 0))) → Below B w0 w' → Hid (w.grownBy w' (some g)) → wpList P ops Q rest (a.put o.dst (goInt m)) w') :
    wpList P ops Q (o :: rest) a w :=
  wpList_plain hgd fun _ hK => gcopy_op d s dT sT ho elem size hu hsz dp sp dLen dCap sLen sCap hd hs g off cur t hg cs m hm hn hpos hfit h1 B w0 hb hBg fun w' h1 h2 h3 => hK _ _ (h w' h1 h2 h3)
end
section
variable {w : World} {ops : Array Oper} {rest : List Oper} {o : Oper} {a : Act} {Q : Exit → Act → World → Prop}
theorem cells_src {ad : Addr} {xs : List Glyph} (hu : Cells w (some ad) xs.length xs) : ∀ j u, (flat xs)[j]? = some u → w.cell? (ad.add j) = some u := by
  intro j u hj
  have hjl : j < xs.length * 6 := by
    rcases Nat.lt_or_ge j (xs.length * 6) with k | k
    · exact k
    · rw [List.getElem?_eq_none (by rw [flat_len]; exact k)] at hj
      cases hj
  obtain ⟨b, off, he, _, hc⟩ := hu.2.2 (by omega)
  injection he with he
  subst he
  obtain ⟨i, r, hr, rfl⟩ : ∃ i r, r < 6 ∧ j = i * 6 + r := ⟨j / 6, j % 6, Nat.mod_lt _ (by omega), by omega⟩
  have hi : i < xs.length := by omega
  rw [flat_at hi hr] at hj
  obtain ⟨h0, h1, h2, h3, h4, h5⟩ := hc i hi
  rw [Go.WideShapes.add_plain]
  match r, hr with
  | 0, _ => simp [Glyph.cells] at hj; subst hj; exact h0
  | 1, _ => simp [Glyph.cells] at hj; subst hj; exact h1
  | 2, _ => simp [Glyph.cells] at hj; subst hj; exact h2
  | 3, _ => simp [Glyph.cells] at hj; subst hj; exact h3
  | 4, _ => simp [Glyph.cells] at hj; subst hj; exact h4
  | 5, _ => simp [Glyph.cells] at hj; subst hj; exact h5
/-- 'append([]T{}, xs...)', xs whatever, but not nil. -/
theorem gapp_in (hgd : o.guard = none) (s x : Operand) (ho : o.op = .call { callee := .builtin .append, args := #[s, x], argTypes := #[29, 29] })
    {lo : Nat} {v : Value} (hs : a.eval s = v) (hown : w.ownsRow lo 28 6 v 0 []) {ad : Addr} {c : Nat} {xs : List Glyph} (hx : a.eval x = .slice (some ad) xs.length c) (hu : Cells w (some ad) xs.length xs) (hl : xs.length ≤ 1000000) (hlo : lo ≤ w.heap.size)
    (h : ∀ v' w', CRow w' lo v' xs → Below lo w w' → wpList Tryd.prog ops Q rest (a.put o.dst v') w') : wpList Tryd.prog ops Q (o :: rest) a w := by
  refine wpList_append_own w hgd s x 29 ho lo 28 _ _ 6 20 Tryd.underlying29 ginfoE gzeroE (by kernel_rfl) (by kernel_rfl) rfl (by decide) v 0 [] hs hown ad xs.length c (flat xs) hx (flat_len xs)
    (cells_src hu) (flat_one xs) (by unfold maxLen; omega) (by omega) hlo (fun v' w' r1 r2 _ => h v' w' ?_ ?_)
  · show w'.ownsRow lo 28 6 v' xs.length (flat xs)
    simpa only [Nat.zero_add, List.nil_append] using r1
  · exact (Below.refl lo w).grown r2 hlo (fun k hk => (World.ownsRow.lt hown k hk).1)
end
theorem gempty_row (w : World) : (w.alloc (.cells #[] 28)).ownsRow w.heap.size 28 6 (.slice (some ⟨w.heap.size, 0, none⟩) 0 0) 0 [] :=
  World.ownsRow_made (base := w.heap.size) (e := 28) (size := 6) w #[] 0 (Nat.le_refl _) (by decide) rfl
def GPost (xs : List Glyph) (w : World) (e : Ending) (w' : World) : Prop := ∃ v', e = .returned v' ∧ CRow w' w.heap.size v' xs ∧ Below w.heap.size w w'
theorem gclone_any (a : Option Addr) (n c : Nat) (xs : List Glyph) (w : World) (hl : Cells w a n xs) (hm : n ≤ 1000000) : Calls Tryd.prog 58 #[.slice a n c] w (GPost xs w) := by
  have hlen := hl.1
  subst hlen
  cases a with
  | none =>
    have hx : xs = [] := by
      rcases Nat.eq_zero_or_pos xs.length with h | h
      · exact List.eq_nil_of_length_eq_zero h
      · obtain ⟨_, _, h, _⟩ := hl.2.2 h
        cases h
    clear hl hm
    subst hx
    simp only [List.length_nil]
    have hnil : ∀ W, (binOp .eql 29 (.slice none 0 c) (.slice none 0 0)).run Tryd.prog W = .ok (.bool true) W := fun W => Lib.run_eql_slice_nil_nil W _ _ Tryd.underlying29
    go_enter Tryd.func58, Tryd.ntmps58
    go_wp2_with fail
    go_ret
    exact ⟨_, rfl, CRow.nil _ _, Below.refl _ _⟩
  | some ad =>
    have HL := Lib.hid hl
    clear hl
    have hnil : ∀ W, (binOp .eql 29 (.slice (some ad) xs.length c) (.slice none 0 0)).run Tryd.prog W = .ok (.bool false) W := fun W => Lib.run_eql_slice_some_nil W _ _ _ Tryd.underlying29
    go_enter Tryd.func58, Tryd.ntmps58
    go_wp2_with (first
      | (at_builtin; refine gapp_in rfl _ _ rfl rfl (gempty_row w) rfl (HL.out.alloc _) hm (by simp) ?_; intro v1 w1 r1 b1)
      | go_in)
    go_ret
    exact ⟨_, rfl, r1, ((Below.refl _ _).alloc (Nat.le_refl _) _).trans b1⟩
theorem gbytes : Tryd.t28.bytes = 20 := by kernel_rfl
theorem gsize : (Tryd.prog.info? 28).map (·.size) = some 6 := by kernel_rfl
theorem gcopied {w' : World} {base g n : Nat} {xs : List Glyph} {cur : List Value} (hn : xs.length = n) (hb : base ≤ g) (hm : n ≤ 1000000) (hc : cur.length = n * 6) (h : w'.heap[g]? = some (.cells (splice cur 0 (flat xs)).toArray 28 (0, 0))) : CRow w' base (.slice (some ⟨g, 0, none⟩) n n) xs := by
  have he : splice cur 0 (flat xs) = flat xs := by
    have : cur.drop (flat xs).length = [] := List.drop_eq_nil_of_le (by rw [flat_len]; omega)
    simp [splice, this]
  rw [he] at h
  refine ⟨flat_len xs, .inr ⟨g, n, _, by rw [hn], hb, h, by omega, by unfold maxLen; omega, by simp [flat_len]; omega, ?_⟩⟩
  show List.take (xs.length * 6) (flat xs) = flat xs
  exact List.take_of_length_le (by rw [flat_len]; exact Nat.le_refl _)
theorem gbelow_none {w w' : World} (h : w.grownBy w' none) : Below w.heap.size w w' := (Below.refl w.heap.size w).grown h (Nat.le_refl _) (fun k hk => by cases hk)
theorem gmade {w : World} {base g n : Nat} {zs : List Value} (h : w.ownsRow base 28 6 (.slice (some ⟨g, 0, none⟩) n n) n zs) : ∃ cur : List Value, cur.length = n * 6 ∧ w.heap[g]? = some (.cells cur.toArray 28 (0, 0)) := by
  rcases h.2 with ⟨h1, _⟩ | ⟨g', cap, cur, h1, _, h3, _, _, h6, _⟩
  · cases h1
  · injection h1 with h1 _ h2
    injection h1 with h1
    injection h1 with h1
    subst h1 h2
    exact ⟨cur.toList, by simpa using h6, by simpa using h3⟩
theorem gsrc_cells {w : World} {a : Option Addr} {n : Nat} {xs : List Glyph} (h : Cells w a n xs) (h0 : 0 < n) : ∃ ad, a = some ad ∧ ∀ j v, (flat xs)[j]? = some v → w.cell? (ad.add j) = some v := by
  obtain rfl := h.1
  obtain ⟨b, off, rfl, hb⟩ := h.2.2 h0
  exact ⟨_, rfl, cells_src h⟩
theorem gcopy_any (a : Option Addr) (n c : Nat) (xs : List Glyph) (w : World) (hl : Cells w a n xs) (hm : n ≤ 1000000) : Calls Tryd.prog 15 #[.slice a n c] w (GPost xs w) := by
  have HL := Lib.hid hl
  have hlen := Lib.hid hl.1
  clear hl
  go_enter Tryd.func15, Tryd.ntmps15
  go_wp2_with (first
    | (at_make; refine wpList_make_full _ rfl _ _ 29 rfl w.heap.size 28 _ _ 6 Tryd.underlying29 ginfoE gzeroE (by kernel_rfl) .i64 .i64 _ _ n rfl rfl rfl rfl (by rw [gbytes]; omega) (by unfold maxLen; omega) (Nat.le_refl _) ?_; intro w1 o1 g1; have hM := gmade o1; obtain ⟨cur, hcur, hg⟩ := hM; have hS := Lib.hid (HL.out.below (gbelow_none g1)); have hB := gbelow_none g1)
    | (refine gcopy_list rfl _ _ 29 29 rfl 28 6 Tryd.underlying29 gsize _ _ _ _ _ _ rfl rfl w.heap.size 0 cur 28 hg (flat xs) n (Nat.min_self n).symm (by rw [flat_len, hlen.out]) (fun h0 => ⟨rfl, gsrc_cells hS.out h0⟩) (by rw [flat_len, hlen.out]; omega) (flat_one xs) w.heap.size w hB (Nat.le_refl _) ?_; intro w2 h2 b2 _)
    | go_in)
  go_ret
  exact ⟨_, rfl, gcopied hlen.out (Nat.le_refl _) hm hcur h2.out, b2⟩
theorem grep_at {n i : Nat} : (List.replicate n g0).getD i g0 = g0 := by
  rw [List.getD_eq_getElem?_getD, List.getElem?_replicate]
  split <;> rfl
theorem flat_zero (n : Nat) : (madeCells (Value.agg #[.int .i32 0, .int .u8 0, .int .u32 0, .int .u32 0, .int .u8 0, .int .u16 0]).cells (n * 6)).toList = flat (List.replicate n g0) := by
  refine List.ext_getElem? fun j => ?_
  rcases Nat.lt_or_ge j (n * 6) with hj | hj
  · obtain ⟨i, r, hr, rfl⟩ : ∃ i r, r < 6 ∧ j = i * 6 + r := ⟨j / 6, j % 6, Nat.mod_lt _ (by omega), by omega⟩
    rw [flat_at (by simp; omega) hr, grep_at]
    have h6 : (Value.agg #[.int .i32 0, .int .u8 0, .int .u32 0, .int .u32 0, .int .u8 0, .int .u16 0]).cells.size = 6 := rfl
    simp only [madeCells, Array.toList_map, List.getElem?_map, Array.toList_range, List.getElem?_range hj, Option.map_some, h6]
    rw [show (i * 6 + r) % 6 = r from by omega]
    match r, hr with
    | 0, _ => rfl
    | 1, _ => rfl
    | 2, _ => rfl
    | 3, _ => rfl
    | 4, _ => rfl
    | 5, _ => rfl
  · rw [List.getElem?_eq_none (by simpa [size_madeCells] using hj), List.getElem?_eq_none (by rw [flat_len, List.length_replicate]; exact hj)]
theorem gmake_row {w : World} {base n : Nat} {v : Value} (h : w.ownsRow base 28 6 v n (madeCells (Value.agg #[.int .i32 0, .int .u8 0, .int .u32 0, .int .u32 0, .int .u8 0, .int .u16 0]).cells (n * 6)).toList) : CRow w base v (List.replicate n g0) := by
  rw [flat_zero] at h
  unfold CRow
  rw [List.length_replicate]
  exact h
theorem gext {xs ys : List Glyph} (h : xs.length = ys.length) (k : ∀ j, j < xs.length → xs.getD j g0 = ys.getD j g0) : xs = ys := by
  refine List.ext_getElem h fun j h1 h2 => ?_
  have := k j h1
  rwa [List.getD_eq_getElem?_getD, List.getD_eq_getElem?_getD, List.getElem?_eq_getElem h1, List.getElem?_eq_getElem h2] at this
def GBPost (b : Bool) (w : World) (e : Ending) (w' : World) : Prop := e = .returned (.bool b) ∧ ∃ m, w.drewN m = w'
end Go.Proofs.YtlhcehealjdbdaaDoor
