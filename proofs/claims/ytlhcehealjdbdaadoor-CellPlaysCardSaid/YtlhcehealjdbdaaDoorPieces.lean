/- A row as pieces, as they stand: the document's walk. -/
import Derived.Test.YtlhcehealjdbdaaDoorPRow
import Derived.Test.YtlhcehealjdbdaaDoorOwn
import Derived.Deep.DeepCutAuto
namespace Go.Proofs.YtlhcehealjdbdaaDoor
open Go.RowKit
set_option linter.unusedSimpArgs false
set_option linter.unusedVariables false
attribute [local go_sem] alloc_drewN setCell_drewN


theorem pext {xs ys : List Pc} (h : xs.length = ys.length) (k : ∀ j, j < xs.length → pat xs j = pat ys j) : xs = ys := by
  refine List.ext_getElem h fun j h1 h2 => ?_
  have := k j h1
  unfold pat at this
  rwa [List.getD_eq_getElem?_getD, List.getD_eq_getElem?_getD, List.getElem?_eq_getElem h1, List.getElem?_eq_getElem h2] at this
def pfrom (n : Nat) (f : Nat → Pc) : List Pc := (List.range n).map f
theorem pfrom_len (n : Nat) (f : Nat → Pc) : (pfrom n f).length = n := by simp [pfrom]
theorem pfrom_pt {n : Nat} {f : Nat → Pc} {i : Nat} (h : i < n) : pat (pfrom n f) i = f i := by
  unfold pat pfrom
  rw [List.getD_eq_getElem?_getD, List.getElem?_map, List.getElem?_range h]
  rfl
/-- What the loop of pieces has laid behind k rounds. -/
def fillPc (xs : List Glyph) (k : Nat) : List Pc := pfrom xs.length fun i => if i < k then ⟨at_ xs i, i⟩ else p0
theorem fillPc_zero (xs : List Glyph) : fillPc xs 0 = List.replicate xs.length p0 := by
  refine pext (by rw [fillPc, pfrom_len, List.length_replicate]) fun j hj => ?_
  rw [fillPc, pfrom_len] at hj
  rw [fillPc, pfrom_pt hj, if_neg (by omega)]
  unfold pat
  rw [List.getD_eq_getElem?_getD, List.getElem?_replicate, if_pos hj]
  rfl
theorem fillPc_all (xs : List Glyph) : fillPc xs xs.length = piecesP xs := by
  refine pext (by rw [fillPc, pfrom_len, pieces_len]) fun j hj => ?_
  rw [fillPc, pfrom_len] at hj
  rw [fillPc, pfrom_pt hj, if_pos hj, pieces_pt hj]
theorem fillPc_set {xs : List Glyph} {k : Nat} (hk : k < xs.length) : (fillPc xs k).set k ⟨at_ xs k, k⟩ = fillPc xs (k + 1) := by
  refine pext (by rw [List.length_set, fillPc, fillPc, pfrom_len, pfrom_len]) fun j hj => ?_
  rw [List.length_set, fillPc, pfrom_len] at hj
  rw [pset (by rw [fillPc, pfrom_len]; exact hk), fillPc, fillPc, pfrom_pt hj, pfrom_pt hj]
  by_cases h1 : j = k
  · rw [if_pos h1, if_pos (by omega), h1]
  · rw [if_neg h1]
    by_cases h2 : j < k
    · rw [if_pos h2, if_pos (by omega)]
    · rw [if_neg h2, if_neg (by omega)]
theorem prep_at {n i : Nat} : pat (List.replicate n p0) i = p0 := by
  unfold pat
  rw [List.getD_eq_getElem?_getD, List.getElem?_replicate]
  split <;> rfl
theorem pflat_zero (n : Nat) : (madeCells (Value.agg #[.int .i32 0, .int .u8 0, .int .u32 0, .int .u32 0, .int .u8 0, .int .u16 0, .int .i64 0]).cells (n * 7)).toList = pflat (List.replicate n p0) := by
  refine List.ext_getElem? fun j => ?_
  rcases Nat.lt_or_ge j (n * 7) with hj | hj
  · obtain ⟨i, r, hr, rfl⟩ : ∃ i r, r < 7 ∧ j = i * 7 + r := ⟨j / 7, j % 7, Nat.mod_lt _ (by omega), by omega⟩
    rw [pflat_at (by simp; omega) hr, prep_at]
    have h6 : (Value.agg #[.int .i32 0, .int .u8 0, .int .u32 0, .int .u32 0, .int .u8 0, .int .u16 0, .int .i64 0]).cells.size = 7 := rfl
    simp only [madeCells, Array.toList_map, List.getElem?_map, Array.toList_range, List.getElem?_range hj, Option.map_some, h6]
    rw [show (i * 7 + r) % 7 = r from by omega]
    match r, hr with
    | 0, _ => rfl
    | 1, _ => rfl
    | 2, _ => rfl
    | 3, _ => rfl
    | 4, _ => rfl
    | 5, _ => rfl
    | 6, _ => rfl
  · rw [List.getElem?_eq_none (by simpa [size_madeCells] using hj), List.getElem?_eq_none (by rw [pflat_len, List.length_replicate]; exact hj)]
theorem pmake_row {w : World} {base n : Nat} {v : Value} (h : w.ownsRow base 95 7 v n (madeCells (Value.agg #[.int .i32 0, .int .u8 0, .int .u32 0, .int .u32 0, .int .u8 0, .int .u16 0, .int .i64 0]).cells (n * 7)).toList) : PRow w base v (List.replicate n p0) := by
  rw [pflat_zero] at h
  unfold PRow
  rw [List.length_replicate]
  exact h
def PPost (ps : List Pc) (w : World) (e : Ending) (w' : World) : Prop := ∃ v', e = .returned v' ∧ PRow w' w.heap.size v' ps ∧ Below w.heap.size w w'
def PcRel (xs : List Glyph) (w : World) (g k : Nat) (wr : World) : Prop := PRow wr w.heap.size (.slice (some ⟨g, 0, none⟩) xs.length xs.length) (fillPc xs k) ∧ Below w.heap.size w wr
theorem PcRel.next {xs : List Glyph} {w : World} {g k : Nat} {w1 w2 : World} (h : PcRel xs w g k w1) (hk : k < xs.length) (hr : PRow w2 w.heap.size (.slice (some ⟨g, 0, none⟩) xs.length xs.length) ((fillPc xs k).set k ⟨at_ xs k, k⟩)) (hg : w1.grownBy w2 (some g)) (hbg : w.heap.size ≤ g) : PcRel xs w g (k + 1) w2 := by
  refine ⟨?_, below_grown h.2 hg hbg h.2.size⟩
  rw [← fillPc_set hk]
  exact hr
set_option maxRecDepth 10000 in
set_option maxHeartbeats 2000000 in
theorem pieces_any (a : Option Addr) (n c : Nat) (xs : List Glyph) (w : World) (hl : Cells w a n xs) (h1 : 1 ≤ n) (h8 : n ≤ 80) : Calls Tryd.prog 70 #[.slice a n c] w (PPost (piecesP xs) w) := by
  obtain rfl := hl.1
  have HL := Lib.hid hl
  obtain ⟨bl, off, rfl, hbl, hcc⟩ := hl.2.2 (by omega)
  have HC := Lib.hid hcc
  clear hl hcc
  go_enter Tryd.func70, Tryd.ntmps70
  go_wp2_with (first
    | (at_make; refine wpList_make_full _ rfl _ _ 92 rfl w.heap.size 95 _ _ 7 Tryd.underlying92 pinfoE pzeroE (by kernel_rfl) .i64 .i64 _ _ xs.length rfl rfl rfl rfl (by rw [pbytes]; omega) (by unfold maxLen; omega) (Nat.le_refl _) ?_; intro w1 o1 g1; have R1 := Lib.hid (pmake_row o1); have B1 := Lib.hid (gbelow_none g1); clear o1 g1)
    | go_in)
  have HL0 : Hid (PcRel xs w w.heap.size 0 w1) := ⟨by rw [fillPc_zero]; exact R1.out, B1.out⟩
  clear R1
  go_loopw [10] (fun v wr => ∃ q : Nat, q ≤ xs.length ∧ v = .int .i64 q ∧ Hid (PcRel xs w w.heap.size q wr)) (fun v _ => xs.length - (intOf v).toNat)
  case atStart => exact ⟨0, by omega, rfl, HL0⟩
  case round =>
    obtain ⟨q, hq1, rfl, HR⟩ := hrel
    clear HL0
    by_cases hq : q < xs.length
    · have hi0 : (0 : Int) ≤ (q : Int) := by omega
      have hi1 : (q : Int) < (xs.length : Int) := by omega
      obtain ⟨x, hx⟩ : ∃ x, at_ xs q = x := ⟨_, rfl⟩
      have HG : Hid (GAt wr bl (off + q * 6) x) := by rw [← hx]; exact (HC.out q hq).same fun p hp => HR.out.2.cell (by omega)
      have HX := Lib.hid hx
      have HQ : Hid (q < xs.length) := hq
      obtain ⟨e0, e1, e2, e3, e4, e5⟩ := HG.out
      clear hx
      go_wp2_with (first
        | (refine pstore_list rfl _ _ rfl (d := ⟨x, (q : Int)⟩) rfl rfl HR.out.1 hq ?_; intro wy r5 g5; have HY' : Hid (PcRel xs w w.heap.size (q + 1) wy) := HR.out.next HQ.out (by rw [HX.out]; exact r5) g5 (Nat.le_refl _); clear r5 g5 e0 e1 e2 e3 e4 e5 HR)
        | go_in)
      go_roundw
      case rel => exact ⟨q + 1, HQ.out, by go_num, HY'⟩
      case measure => have := HQ.out; simp [intOf]; omega
    · obtain rfl : q = xs.length := by omega
      clear hq
      go_wp2_with fail
      go_ret
      exact ⟨_, rfl, by rw [← fillPc_all]; exact HR.out.1, HR.out.2⟩
end Go.Proofs.YtlhcehealjdbdaaDoor
