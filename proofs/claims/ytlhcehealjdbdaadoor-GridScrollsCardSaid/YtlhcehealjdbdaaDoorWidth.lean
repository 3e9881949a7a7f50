/- How many columns a rune takes. -/
import Derived.Test.YtlhcehealjdbdaaDoorGSame
import Derived.Deep.DeepCutAuto
namespace Go.Proofs.YtlhcehealjdbdaaDoor
open Go.RowKit
attribute [local go_sem] alloc_drewN setCell_drewN


def inR (r a b : Int) : Bool := decide (a ≤ r) && decide (r ≤ b)
def pre (r : Int) : Bool := decide (r < 32) || inR r 127 159 || inR r 55296 57343 || decide (1114111 < r)
def tabN : List (Int × Int) := [(768, 879), (8203, 8207), (65024, 65039)]
def tabW : List (Int × Int) := [(4352, 4447), (11904, 12350), (12353, 42191), (44032, 55203), (63744, 64255), (65072, 65135), (65280, 65376), (65504, 65510), (127744, 128591), (131072, 262141)]
def anyIn (T : List (Int × Int)) (r : Int) : Bool := T.any fun p => inR r p.1 p.2
def width (r : Int) : Int := if pre r || anyIn tabN r then 0 else if anyIn tabW r then 2 else 1
theorem width_pre {r : Int} (h : pre r = true) : width r = 0 := by unfold width; rw [h]; rfl
theorem width_none {r : Int} (k : anyIn tabN r = true) : width r = 0 := by unfold width; rw [k, Bool.or_true]; rfl
theorem width_two {r : Int} (h : pre r = false) (k : anyIn tabN r = false) (l : anyIn tabW r = true) : width r = 2 := by unfold width; rw [h, k, l]; rfl
theorem width_one {r : Int} (h : pre r = false) (k : anyIn tabN r = false) (l : anyIn tabW r = false) : width r = 1 := by unfold width; rw [h, k, l]; rfl
theorem width_or (r : Int) : width r = 0 ∨ width r = 1 ∨ width r = 2 := by
  unfold width
  split
  · exact .inl rfl
  · split
    · exact .inr (.inr rfl)
    · exact .inr (.inl rfl)
def Miss (T : List (Int × Int)) (r : Int) (k : Nat) : Prop := ∀ j, j < k → inR r (List.getD T j (0, 0)).1 (List.getD T j (0, 0)).2 = false
theorem miss_zero (T : List (Int × Int)) (r : Int) : Miss T r 0 := fun j h => absurd h (by omega)
theorem miss_next {T : List (Int × Int)} {r : Int} {k : Nat} (h : Miss T r k) (h2 : inR r (List.getD T k (0, 0)).1 (List.getD T k (0, 0)).2 = false) : Miss T r (k + 1) := fun j hj => by
  rcases Nat.lt_or_ge j k with h1 | h1
  · exact h j h1
  · obtain rfl : j = k := by omega
    exact h2
theorem any_miss {T : List (Int × Int)} {r : Int} (h : Miss T r T.length) : anyIn T r = false := by
  unfold anyIn
  rw [List.any_eq_false]
  intro p hp
  obtain ⟨j, hj, rfl⟩ := List.mem_iff_getElem.1 hp
  have := h j hj
  rw [List.getD_eq_getElem?_getD, List.getElem?_eq_getElem hj] at this
  simpa using this
theorem any_hit {T : List (Int × Int)} {r : Int} {k : Nat} (hk : k < T.length) (h : inR r (List.getD T k (0, 0)).1 (List.getD T k (0, 0)).2 = true) : anyIn T r = true := by
  unfold anyIn
  rw [List.any_eq_true]
  rw [List.getD_eq_getElem?_getD, List.getElem?_eq_getElem hk] at h
  exact ⟨_, List.getElem_mem hk, h⟩
/-- A table as it lies in memory. -/
def flatT : List (Int × Int) → List Value
  | [] => []
  | p :: r => .int .i32 p.1 :: .int .i32 p.2 :: flatT r
def TabAt (w : World) (g : Nat) (T : List (Int × Int)) : Prop := ∀ j v, (flatT T)[j]? = some v → w.cell? ⟨g, j, none⟩ = some v
/-- The two tables, as the program's text lays them. -/
def Tabs (w : World) : Prop := TabAt w 0 tabN ∧ TabAt w 1 tabW
theorem TabAt.below {w w' : World} {g : Nat} {T : List (Int × Int)} (h : TabAt w g T) (hb : Below w.heap.size w w') : TabAt w' g T := fun j v e => (hb.cell (Keep.lt (p := ⟨g, j, none⟩) (by rw [h j v e]; rfl))).trans (h j v e)
theorem Tabs.below {w w' : World} (h : Tabs w) (hb : Below w.heap.size w w') : Tabs w' := ⟨h.1.below hb, h.2.below hb⟩
theorem load_row {ops : Array Oper} {rest : List Oper} {o : Oper} {a : Act} {w : World} {P : Program} {Q : Exit → Act → World → Prop} (hgd : o.guard = none) (ty : TypeId) (x : Operand) (ho : o.op = .load ty x)
    (g : Nat) (hx : a.eval x = .pointer (some ⟨g, 0, none⟩)) (cs : List Value) (hc : ∀ j v, cs[j]? = some v → w.cell? ⟨g, j, none⟩ = some v) {d : TypeDesc}
    (hu : P.underlying ty = some d) (hd : (match d with | .struct _ | .array _ _ => true | _ => false) = true) (hi : (P.info? ty).map (·.size) = some cs.length)
    (h : wpList P ops Q rest (a.put o.dst (.agg cs.toArray)) w) : wpList P ops Q (o :: rest) a w := by
  have hl : (loadCells ⟨g, 0, none⟩ cs.length).run P w = .ok cs.toArray w := run_loadCells_list (P := P) w ⟨g, 0, none⟩ cs (fun j v hv => by rw [gplain_add]; exact hc j v hv)
  have hrun : (loadVar ty ⟨g, 0, none⟩).run P w = .ok (.agg cs.toArray) w := by
    cases hq : P.info? ty with
    | none => simp [hq] at hi
    | some i =>
      have hs : i.size = cs.length := by simpa [hq] using hi
      have hagg : (isAgg ty).run P w = .ok true w := by
        unfold isAgg
        rw [Sem.run_bind, run_underlying hu w]
        cases d <;> simp_all
      simp [loadVar, Sem.run_bind, hagg, sizeOf, typeInfo, hq, hs, hl]
  refine wpList_plain hgd fun K hK => ?_
  unfold Oper.wp execOp
  simp only [ho, hx, Instr.loadAt, Instr.sureAddr, Sem.run_bind, Sem.run_pure, Result.andThen_ok, hrun]
  exact hK _ _ h
theorem idxN (k : Nat) (hk : k < 3) (W : World) : (Instr.index 88 (.agg (flatT tabN).toArray) (.int .i64 k)).run Tryd.prog W = .ok (.agg #[.int .i32 (List.getD tabN k (0, 0)).1, .int .i32 (List.getD tabN k (0, 0)).2]) W := by
  rcases (by omega : k = 0 ∨ k = 1 ∨ k = 2) with rfl | rfl | rfl <;> kernel_rfl
theorem idxW (k : Nat) (hk : k < 10) (W : World) : (Instr.index 89 (.agg (flatT tabW).toArray) (.int .i64 k)).run Tryd.prog W = .ok (.agg #[.int .i32 (List.getD tabW k (0, 0)).1, .int .i32 (List.getD tabW k (0, 0)).2]) W := by
  rcases (by omega : k = 0 ∨ k = 1 ∨ k = 2 ∨ k = 3 ∨ k = 4 ∨ k = 5 ∨ k = 6 ∨ k = 7 ∨ k = 8 ∨ k = 9) with rfl | rfl | rfl | rfl | rfl | rfl | rfl | rfl | rfl | rfl <;> kernel_rfl
def NPost (n : Int) (w : World) (e : Ending) (w' : World) : Prop := e = .returned (.int .i64 n) ∧ Below w.heap.size w w'
set_option maxRecDepth 10000 in
set_option maxHeartbeats 2000000 in
theorem width_any (r : Int) (w : World) (ht : Tabs w) : Calls Tryd.prog 46 #[.int .i32 r] w (NPost (width r) w) := by
  have HT := Lib.hid ht
  clear ht
  go_enter Tryd.func46, Tryd.ntmps46
  go_upto_region 1 with fail
  go_cut [28] (fun b wc => b = .bool (pre r) ∧ w = wc)
  case first =>
    cases h1 : decide (r < 32) with
    | true =>
      go_wp2_with fail
      go_meet
      exact ⟨by unfold pre inR; simp [h1], rfl⟩
    | false =>
      cases h2 : decide (127 ≤ r) with
      | false =>
        have h3 : decide (55296 ≤ r) = false := decide_eq_false (by have := of_decide_eq_false h2; omega)
        have h4 : decide (1114111 < r) = false := decide_eq_false (by have := of_decide_eq_false h2; omega)
        go_wp2_with fail
        go_meet
        exact ⟨by unfold pre inR; simp [h1, h2, h3, h4], rfl⟩
      | true =>
        cases h5 : decide (r ≤ 159) with
        | true =>
          go_wp2_with fail
          go_meet
          exact ⟨by unfold pre inR; simp [h2, h5], rfl⟩
        | false =>
          cases h3 : decide (55296 ≤ r) with
          | false =>
            have h4 : decide (1114111 < r) = false := decide_eq_false (by have := of_decide_eq_false h3; omega)
            go_wp2_with fail
            go_meet
            exact ⟨by unfold pre inR; simp [h1, h2, h3, h4, h5], rfl⟩
          | true =>
            cases h6 : decide (r ≤ 57343) with
            | true =>
              go_wp2_with fail
              go_meet
              exact ⟨by unfold pre inR; simp [h3, h6], rfl⟩
            | false =>
              cases h4 : decide (1114111 < r) with
              | true =>
                go_wp2_with fail
                go_meet
                exact ⟨by unfold pre inR; simp [h4], rfl⟩
              | false =>
                go_wp2_with fail
                go_meet
                exact ⟨by unfold pre inR; simp [h1, h2, h3, h4, h5, h6], rfl⟩
  case rest =>
    obtain ⟨rfl, rfl⟩ := hcut
    cases hp : pre r with
    | true =>
      have HZ := Lib.hid (width_pre hp)
      clear hp
      go_wp2_with fail
      go_ret
      exact ⟨by rw [HZ.out]; rfl, Below.refl _ _⟩
    | false =>
      have HP := Lib.hid hp
      have HB0 : Hid (Below w.heap.size w w) := Below.refl _ _
      clear hp
      go_upto_region 3 with fail
      go_cut [29, 30] (fun v i wc => Hid (∀ (k : Nat), k < 3 → ∀ W, (Instr.index 88 v (.int .i64 k)).run Tryd.prog W = .ok (.agg #[.int .i32 (List.getD tabN k (0, 0)).1, .int .i32 (List.getD tabN k (0, 0)).2]) W) ∧ i = .int .i64 0 ∧ w = wc)
      case first =>
        go_wp2_with (first
          | (refine load_row rfl 88 _ rfl 0 rfl (flatT tabN) HT.out.1 Tryd.underlying88 rfl (by kernel_rfl) ?_)
          | go_in)
        go_meet
        exact ⟨idxN, rfl, rfl⟩
      case rest =>
        obtain ⟨HV, rfl, rfl⟩ := hcut
        go_wp2_with fail
        have hx0 := Lib.hid (miss_zero tabN r)
        go_loopw [30] (fun i wr => ∃ k : Nat, k ≤ 3 ∧ i = .int .i64 k ∧ Hid (Miss tabN r k ∧ Below w.heap.size w wr)) (fun i _ => 3 - (intOf i).toNat)
        case atStart => exact ⟨0, by omega, rfl, hx0.out, HB0.out⟩
        case round =>
          obtain ⟨k, hkn, rfl, HR⟩ := hrel
          by_cases hk : k < 3
          · have hx := HV.out k hk
            obtain ⟨lo, hlo⟩ : ∃ lo, (List.getD tabN k (0, 0)).1 = lo := ⟨_, rfl⟩
            obtain ⟨hi, hhi⟩ : ∃ hi, (List.getD tabN k (0, 0)).2 = hi := ⟨_, rfl⟩
            rw [hlo, hhi] at hx
            have HLO := Lib.hid hlo
            have HHI := Lib.hid hhi
            have HBA : ∀ o, Hid (Below w.heap.size w (wr.alloc o)) := fun o => HR.out.2.alloc HR.out.2.size o
            have HBB := Lib.hid HBA
            clear hlo hhi HBA
            cases hl : decide (lo ≤ r) with
            | false =>
              have HN := Lib.hid (miss_next HR.out.1 (by rw [HLO.out, HHI.out]; unfold inR; rw [hl]; rfl))
              go_wp2_with fail
              go_roundw
              case rel => exact ⟨k + 1, by omega, by go_num, HN.out, (HBB.out _).out⟩
              case measure => simp [intOf]; omega
            | true =>
              cases hh : decide (r ≤ hi) with
              | false =>
                have HN := Lib.hid (miss_next HR.out.1 (by rw [HLO.out, HHI.out]; unfold inR; rw [hl, hh]; rfl))
                go_wp2_with fail
                go_roundw
                case rel => exact ⟨k + 1, by omega, by go_num, HN.out, (HBB.out _).out⟩
                case measure => simp [intOf]; omega
              | true =>
                have hit : anyIn tabN r = true := any_hit (k := k) (by simp [tabN]; omega) (by rw [HLO.out, HHI.out]; unfold inR; rw [hl, hh]; rfl)
                have HZ : Hid (width r = 0) := width_none hit
                clear hit
                go_wp2_with fail
                go_ret
                exact ⟨by rw [HZ.out]; rfl, (HBB.out _).out⟩
          · obtain rfl : k = 3 := by omega
            clear hk
            have HNN : Hid (anyIn tabN r = false) := any_miss HR.out.1
            have HB0 : Hid (Below w.heap.size w wr) := HR.out.2
            have ht2 := Lib.hid (HT.out.below HB0.out)
            go_upto_region 9 with fail
            go_cut [44, 45] (fun v i wc => Hid (∀ (k : Nat), k < 10 → ∀ W, (Instr.index 89 v (.int .i64 k)).run Tryd.prog W = .ok (.agg #[.int .i32 (List.getD tabW k (0, 0)).1, .int .i32 (List.getD tabW k (0, 0)).2]) W) ∧ i = .int .i64 0 ∧ wr = wc)
            case first =>
              go_wp2_with (first
                | (refine load_row rfl 89 _ rfl 1 rfl (flatT tabW) ht2.out.2 Tryd.underlying89 rfl (by kernel_rfl) ?_)
                | go_in)
              go_meet
              exact ⟨idxW, rfl, rfl⟩
            case rest =>
              obtain ⟨HV, rfl, rfl⟩ := hcut
              go_wp2_with fail
              have hx0 := Lib.hid (miss_zero tabW r)
              go_loopw [45] (fun i wr => ∃ k : Nat, k ≤ 10 ∧ i = .int .i64 k ∧ Hid (Miss tabW r k ∧ Below w.heap.size w wr)) (fun i _ => 10 - (intOf i).toNat)
              case atStart => exact ⟨0, by omega, rfl, hx0.out, HB0.out⟩
              case round =>
                obtain ⟨k, hkn, rfl, HR⟩ := hrel
                by_cases hk : k < 10
                · have hx := HV.out k hk
                  obtain ⟨lo, hlo⟩ : ∃ lo, (List.getD tabW k (0, 0)).1 = lo := ⟨_, rfl⟩
                  obtain ⟨hi, hhi⟩ : ∃ hi, (List.getD tabW k (0, 0)).2 = hi := ⟨_, rfl⟩
                  rw [hlo, hhi] at hx
                  have HLO := Lib.hid hlo
                  have HHI := Lib.hid hhi
                  have HBA : ∀ o, Hid (Below w.heap.size w (wr.alloc o)) := fun o => HR.out.2.alloc HR.out.2.size o
                  have HBB := Lib.hid HBA
                  clear hlo hhi HBA
                  cases hl : decide (lo ≤ r) with
                  | false =>
                    have HN := Lib.hid (miss_next HR.out.1 (by rw [HLO.out, HHI.out]; unfold inR; rw [hl]; rfl))
                    go_wp2_with fail
                    go_roundw
                    case rel => exact ⟨k + 1, by omega, by go_num, HN.out, (HBB.out _).out⟩
                    case measure => simp [intOf]; omega
                  | true =>
                    cases hh : decide (r ≤ hi) with
                    | false =>
                      have HN := Lib.hid (miss_next HR.out.1 (by rw [HLO.out, HHI.out]; unfold inR; rw [hl, hh]; rfl))
                      go_wp2_with fail
                      go_roundw
                      case rel => exact ⟨k + 1, by omega, by go_num, HN.out, (HBB.out _).out⟩
                      case measure => simp [intOf]; omega
                    | true =>
                      have hit : anyIn tabW r = true := any_hit (k := k) (by simp [tabW]; omega) (by rw [HLO.out, HHI.out]; unfold inR; rw [hl, hh]; rfl)
                      have HZ : Hid (width r = 2) := width_two HP.out HNN.out hit
                      clear hit
                      go_wp2_with fail
                      go_ret
                      exact ⟨by rw [HZ.out]; rfl, (HBB.out _).out⟩
                · obtain rfl : k = 10 := by omega
                  clear hk
                  have HZ : Hid (width r = 1) := width_one HP.out HNN.out (any_miss HR.out.1)
                  go_wp2_with fail
                  go_ret
                  exact ⟨by rw [HZ.out]; rfl, HR.out.2⟩
end Go.Proofs.YtlhcehealjdbdaaDoor
