/- Part 2 of the texts that GridPlays stands on, one behind the other. -/
import Derived.Test.YtlhcehealjdbdaaDoorP1
import Derived.Deep.DeepCutAuto
/- How many columns a rune takes. -/
namespace Go.Proofs.YtlhcehealjdbdaaDoor
open Go.RowKit
attribute [local go_sem] alloc_drewN setCell_drewN


def inR (r a b : Int) : Bool := decide (a ≤ r) && decide (r ≤ b)
def pre (r : Int) : Bool := decide (r < 32) || inR r 127 159 || inR r 55296 57343 || decide (1114111 < r)
def tabN : List (Int × Int) := [(768, 879), (8203, 8207), (65024, 65039)]
def tabW : List (Int × Int) := [(4352, 4447), (11904, 12350), (12353, 42191), (44032, 55203), (63744, 64255), (65072, 65135), (65280, 65376), (65504, 65510), (127744, 128591), (131072, 262141)]
def anyIn (T : List (Int × Int)) (r : Int) : Bool := T.any fun p => inR r p.1 p.2
def width (r : Int) : Int := if pre r || anyIn tabN r then 0 else if anyIn tabW r then 2 else 1
theorem width_pre {r : Int} (h : pre r = true) : width r = 0 := by unfold width; rw [h]; rfl
theorem width_none {r : Int} (k : anyIn tabN r = true) : width r = 0 := by unfold width; rw [k, Bool.or_true]; rfl
theorem width_two {r : Int} (h : pre r = false) (k : anyIn tabN r = false) (l : anyIn tabW r = true) : width r = 2 := by unfold width; rw [h, k, l]; rfl
theorem width_one {r : Int} (h : pre r = false) (k : anyIn tabN r = false) (l : anyIn tabW r = false) : width r = 1 := by unfold width; rw [h, k, l]; rfl
theorem width_or (r : Int) : width r = 0 ∨ width r = 1 ∨ width r = 2 := by
  unfold width
  split
  · exact .inl rfl
  · split
    · exact .inr (.inr rfl)
    · exact .inr (.inl rfl)
def Miss (T : List (Int × Int)) (r : Int) (k : Nat) : Prop := ∀ j, j < k → inR r (List.getD T j (0, 0)).1 (List.getD T j (0, 0)).2 = false
theorem miss_zero (T : List (Int × Int)) (r : Int) : Miss T r 0 := fun j h => absurd h (by omega)
theorem miss_next {T : List (Int × Int)} {r : Int} {k : Nat} (h : Miss T r k) (h2 : inR r (List.getD T k (0, 0)).1 (List.getD T k (0, 0)).2 = false) : Miss T r (k + 1) := fun j hj => by
  rcases Nat.lt_or_ge j k with h1 | h1
  · exact h j h1
  · obtain rfl : j = k := by omega
    exact h2
theorem any_miss {T : List (Int × Int)} {r : Int} (h : Miss T r T.length) : anyIn T r = false := by
  unfold anyIn
  rw [List.any_eq_false]
  intro p hp
  obtain ⟨j, hj, rfl⟩ := List.mem_iff_getElem.1 hp
  have := h j hj
  rw [List.getD_eq_getElem?_getD, List.getElem?_eq_getElem hj] at this
  simpa using this
theorem any_hit {T : List (Int × Int)} {r : Int} {k : Nat} (hk : k < T.length) (h : inR r (List.getD T k (0, 0)).1 (List.getD T k (0, 0)).2 = true) : anyIn T r = true := by
  unfold anyIn
  rw [List.any_eq_true]
  rw [List.getD_eq_getElem?_getD, List.getElem?_eq_getElem hk] at h
  exact ⟨_, List.getElem_mem hk, h⟩
/-- A table as it lies in memory. -/
def flatT : List (Int × Int) → List Value
  | [] => []
  | p :: r => .int .i32 p.1 :: .int .i32 p.2 :: flatT r
def TabAt (w : World) (g : Nat) (T : List (Int × Int)) : Prop := ∀ j v, (flatT T)[j]? = some v → w.cell? ⟨g, j, none⟩ = some v
/-- The two tables, as the program's text lays them. -/
def Tabs (w : World) : Prop := TabAt w 0 tabN ∧ TabAt w 1 tabW
theorem TabAt.below {w w' : World} {g : Nat} {T : List (Int × Int)} (h : TabAt w g T) (hb : Below w.heap.size w w') : TabAt w' g T := fun j v e => (hb.cell (Keep.lt (p := ⟨g, j, none⟩) (by rw [h j v e]; rfl))).trans (h j v e)
theorem Tabs.below {w w' : World} (h : Tabs w) (hb : Below w.heap.size w w') : Tabs w' := ⟨h.1.below hb, h.2.below hb⟩
theorem load_row {ops : Array Oper} {rest : List Oper} {o : Oper} {a : Act} {w : World} {P : Program} {Q : Exit → Act → World → Prop} (hgd : o.guard = none) (ty : TypeId) (x : Operand) (ho : o.op = .load ty x)
    (g : Nat) (hx : a.eval x = .pointer (some ⟨g, 0, none⟩)) (cs : List Value) (hc : ∀ j v, cs[j]? = some v → w.cell? ⟨g, j, none⟩ = some v) {d : TypeDesc}
    (hu : P.underlying ty = some d) (hd : (match d with | .struct _ | .array _ _ => true | _ => false) = true) (hi : (P.info? ty).map (·.size) = some cs.length)
    (h : wpList P ops Q rest (a.put o.dst (.agg cs.toArray)) w) : wpList P ops Q (o :: rest) a w := by
  have hl : (loadCells ⟨g, 0, none⟩ cs.length).run P w = .ok cs.toArray w := run_loadCells_list (P := P) w ⟨g, 0, none⟩ cs (fun j v hv => by rw [gplain_add]; exact hc j v hv)
  have hrun : (loadVar ty ⟨g, 0, none⟩).run P w = .ok (.agg cs.toArray) w := by
    cases hq : P.info? ty with
    | none => simp [hq] at hi
    | some i =>
      have hs : i.size = cs.length := by simpa [hq] using hi
      have hagg : (isAgg ty).run P w = .ok true w := by
        unfold isAgg
        rw [Sem.run_bind, run_underlying hu w]
        cases d <;> simp_all
      simp [loadVar, Sem.run_bind, hagg, sizeOf, typeInfo, hq, hs, hl]
  refine wpList_plain hgd fun K hK => ?_
  unfold Oper.wp execOp
  simp only [ho, hx, Instr.loadAt, Instr.sureAddr, Sem.run_bind, Sem.run_pure, Result.andThen_ok, hrun]
  exact hK _ _ h
theorem idxN (k : Nat) (hk : k < 3) (W : World) : (Instr.index 88 (.agg (flatT tabN).toArray) (.int .i64 k)).run Tryd.prog W = .ok (.agg #[.int .i32 (List.getD tabN k (0, 0)).1, .int .i32 (List.getD tabN k (0, 0)).2]) W := by
  rcases (by omega : k = 0 ∨ k = 1 ∨ k = 2) with rfl | rfl | rfl <;> kernel_rfl
theorem idxW (k : Nat) (hk : k < 10) (W : World) : (Instr.index 89 (.agg (flatT tabW).toArray) (.int .i64 k)).run Tryd.prog W = .ok (.agg #[.int .i32 (List.getD tabW k (0, 0)).1, .int .i32 (List.getD tabW k (0, 0)).2]) W := by
  rcases (by omega : k = 0 ∨ k = 1 ∨ k = 2 ∨ k = 3 ∨ k = 4 ∨ k = 5 ∨ k = 6 ∨ k = 7 ∨ k = 8 ∨ k = 9) with rfl | rfl | rfl | rfl | rfl | rfl | rfl | rfl | rfl | rfl <;> kernel_rfl
def NPost (n : Int) (w : World) (e : Ending) (w' : World) : Prop := e = .returned (.int .i64 n) ∧ Below w.heap.size w w'
set_option maxRecDepth 10000 in
set_option maxHeartbeats 2000000 in
theorem width_any (r : Int) (w : World) (ht : Tabs w) : Calls Tryd.prog 46 #[.int .i32 r] w (NPost (width r) w) := by
  have HT := Lib.hid ht
  clear ht
  go_enter Tryd.func46, Tryd.ntmps46
  go_upto_region 1 with fail
  go_cut [28] (fun b wc => b = .bool (pre r) ∧ w = wc)
  case first =>
    cases h1 : decide (r < 32) with
    | true =>
      go_wp2_with fail
      go_meet
      exact ⟨by unfold pre inR; simp [h1], rfl⟩
    | false =>
      cases h2 : decide (127 ≤ r) with
      | false =>
        have h3 : decide (55296 ≤ r) = false := decide_eq_false (by have := of_decide_eq_false h2; omega)
        have h4 : decide (1114111 < r) = false := decide_eq_false (by have := of_decide_eq_false h2; omega)
        go_wp2_with fail
        go_meet
        exact ⟨by unfold pre inR; simp [h1, h2, h3, h4], rfl⟩
      | true =>
        cases h5 : decide (r ≤ 159) with
        | true =>
          go_wp2_with fail
          go_meet
          exact ⟨by unfold pre inR; simp [h2, h5], rfl⟩
        | false =>
          cases h3 : decide (55296 ≤ r) with
          | false =>
            have h4 : decide (1114111 < r) = false := decide_eq_false (by have := of_decide_eq_false h3; omega)
            go_wp2_with fail
            go_meet
            exact ⟨by unfold pre inR; simp [h1, h2, h3, h4, h5], rfl⟩
          | true =>
            cases h6 : decide (r ≤ 57343) with
            | true =>
              go_wp2_with fail
              go_meet
              exact ⟨by unfold pre inR; simp [h3, h6], rfl⟩
            | false =>
              cases h4 : decide (1114111 < r) with
              | true =>
                go_wp2_with fail
                go_meet
                exact ⟨by unfold pre inR; simp [h4], rfl⟩
              | false =>
                go_wp2_with fail
                go_meet
                exact ⟨by unfold pre inR; simp [h1, h2, h3, h4, h5, h6], rfl⟩
  case rest =>
    obtain ⟨rfl, rfl⟩ := hcut
    cases hp : pre r with
    | true =>
      have HZ := Lib.hid (width_pre hp)
      clear hp
      go_wp2_with fail
      go_ret
      exact ⟨by rw [HZ.out]; rfl, Below.refl _ _⟩
    | false =>
      have HP := Lib.hid hp
      have HB0 : Hid (Below w.heap.size w w) := Below.refl _ _
      clear hp
      go_upto_region 3 with fail
      go_cut [29, 30] (fun v i wc => Hid (∀ (k : Nat), k < 3 → ∀ W, (Instr.index 88 v (.int .i64 k)).run Tryd.prog W = .ok (.agg #[.int .i32 (List.getD tabN k (0, 0)).1, .int .i32 (List.getD tabN k (0, 0)).2]) W) ∧ i = .int .i64 0 ∧ w = wc)
      case first =>
        go_wp2_with (first
          | (refine load_row rfl 88 _ rfl 0 rfl (flatT tabN) HT.out.1 Tryd.underlying88 rfl (by kernel_rfl) ?_)
          | go_in)
        go_meet
        exact ⟨idxN, rfl, rfl⟩
      case rest =>
        obtain ⟨HV, rfl, rfl⟩ := hcut
        go_wp2_with fail
        have hx0 := Lib.hid (miss_zero tabN r)
        go_loopw [30] (fun i wr => ∃ k : Nat, k ≤ 3 ∧ i = .int .i64 k ∧ Hid (Miss tabN r k ∧ Below w.heap.size w wr)) (fun i _ => 3 - (intOf i).toNat)
        case atStart => exact ⟨0, by omega, rfl, hx0.out, HB0.out⟩
        case round =>
          obtain ⟨k, hkn, rfl, HR⟩ := hrel
          by_cases hk : k < 3
          · have hx := HV.out k hk
            obtain ⟨lo, hlo⟩ : ∃ lo, (List.getD tabN k (0, 0)).1 = lo := ⟨_, rfl⟩
            obtain ⟨hi, hhi⟩ : ∃ hi, (List.getD tabN k (0, 0)).2 = hi := ⟨_, rfl⟩
            rw [hlo, hhi] at hx
            have HLO := Lib.hid hlo
            have HHI := Lib.hid hhi
            have HBA : ∀ o, Hid (Below w.heap.size w (wr.alloc o)) := fun o => HR.out.2.alloc HR.out.2.size o
            have HBB := Lib.hid HBA
            clear hlo hhi HBA
            cases hl : decide (lo ≤ r) with
            | false =>
              have HN := Lib.hid (miss_next HR.out.1 (by rw [HLO.out, HHI.out]; unfold inR; rw [hl]; rfl))
              go_wp2_with fail
              go_roundw
              case rel => exact ⟨k + 1, by omega, by go_num, HN.out, (HBB.out _).out⟩
              case measure => simp [intOf]; omega
            | true =>
              cases hh : decide (r ≤ hi) with
              | false =>
                have HN := Lib.hid (miss_next HR.out.1 (by rw [HLO.out, HHI.out]; unfold inR; rw [hl, hh]; rfl))
                go_wp2_with fail
                go_roundw
                case rel => exact ⟨k + 1, by omega, by go_num, HN.out, (HBB.out _).out⟩
                case measure => simp [intOf]; omega
              | true =>
                have hit : anyIn tabN r = true := any_hit (k := k) (by simp [tabN]; omega) (by rw [HLO.out, HHI.out]; unfold inR; rw [hl, hh]; rfl)
                have HZ : Hid (width r = 0) := width_none hit
                clear hit
                go_wp2_with fail
                go_ret
                exact ⟨by rw [HZ.out]; rfl, (HBB.out _).out⟩
          · obtain rfl : k = 3 := by omega
            clear hk
            have HNN : Hid (anyIn tabN r = false) := any_miss HR.out.1
            have HB0 : Hid (Below w.heap.size w wr) := HR.out.2
            have ht2 := Lib.hid (HT.out.below HB0.out)
            go_upto_region 9 with fail
            go_cut [44, 45] (fun v i wc => Hid (∀ (k : Nat), k < 10 → ∀ W, (Instr.index 89 v (.int .i64 k)).run Tryd.prog W = .ok (.agg #[.int .i32 (List.getD tabW k (0, 0)).1, .int .i32 (List.getD tabW k (0, 0)).2]) W) ∧ i = .int .i64 0 ∧ wr = wc)
            case first =>
              go_wp2_with (first
                | (refine load_row rfl 89 _ rfl 1 rfl (flatT tabW) ht2.out.2 Tryd.underlying89 rfl (by kernel_rfl) ?_)
                | go_in)
              go_meet
              exact ⟨idxW, rfl, rfl⟩
            case rest =>
              obtain ⟨HV, rfl, rfl⟩ := hcut
              go_wp2_with fail
              have hx0 := Lib.hid (miss_zero tabW r)
              go_loopw [45] (fun i wr => ∃ k : Nat, k ≤ 10 ∧ i = .int .i64 k ∧ Hid (Miss tabW r k ∧ Below w.heap.size w wr)) (fun i _ => 10 - (intOf i).toNat)
              case atStart => exact ⟨0, by omega, rfl, hx0.out, HB0.out⟩
              case round =>
                obtain ⟨k, hkn, rfl, HR⟩ := hrel
                by_cases hk : k < 10
                · have hx := HV.out k hk
                  obtain ⟨lo, hlo⟩ : ∃ lo, (List.getD tabW k (0, 0)).1 = lo := ⟨_, rfl⟩
                  obtain ⟨hi, hhi⟩ : ∃ hi, (List.getD tabW k (0, 0)).2 = hi := ⟨_, rfl⟩
                  rw [hlo, hhi] at hx
                  have HLO := Lib.hid hlo
                  have HHI := Lib.hid hhi
                  have HBA : ∀ o, Hid (Below w.heap.size w (wr.alloc o)) := fun o => HR.out.2.alloc HR.out.2.size o
                  have HBB := Lib.hid HBA
                  clear hlo hhi HBA
                  cases hl : decide (lo ≤ r) with
                  | false =>
                    have HN := Lib.hid (miss_next HR.out.1 (by rw [HLO.out, HHI.out]; unfold inR; rw [hl]; rfl))
                    go_wp2_with fail
                    go_roundw
                    case rel => exact ⟨k + 1, by omega, by go_num, HN.out, (HBB.out _).out⟩
                    case measure => simp [intOf]; omega
                  | true =>
                    cases hh : decide (r ≤ hi) with
                    | false =>
                      have HN := Lib.hid (miss_next HR.out.1 (by rw [HLO.out, HHI.out]; unfold inR; rw [hl, hh]; rfl))
                      go_wp2_with fail
                      go_roundw
                      case rel => exact ⟨k + 1, by omega, by go_num, HN.out, (HBB.out _).out⟩
                      case measure => simp [intOf]; omega
                    | true =>
                      have hit : anyIn tabW r = true := any_hit (k := k) (by simp [tabW]; omega) (by rw [HLO.out, HHI.out]; unfold inR; rw [hl, hh]; rfl)
                      have HZ : Hid (width r = 2) := width_two HP.out HNN.out hit
                      clear hit
                      go_wp2_with fail
                      go_ret
                      exact ⟨by rw [HZ.out]; rfl, (HBB.out _).out⟩
                · obtain rfl : k = 10 := by omega
                  clear hk
                  have HZ : Hid (width r = 1) := width_one HP.out HNN.out (any_miss HR.out.1)
                  go_wp2_with fail
                  go_ret
                  exact ⟨by rw [HZ.out]; rfl, HR.out.2⟩
end Go.Proofs.YtlhcehealjdbdaaDoor
/- How many columns a rune takes, as the document says. -/
namespace Go.Proofs.YtlhcehealjdbdaaDoor
open Go.RowKit
attribute [local go_sem] alloc_drewN setCell_drewN


def mayR (r : Int) : Bool := inR r 0 55295 || inR r 57344 1114111
theorem ref_pre (r : Int) : (!mayR r || inR r 0 31 || inR r 127 159) = pre r := by
  unfold mayR pre inR
  rw [Bool.eq_iff_iff]
  simp only [Bool.or_eq_true, Bool.not_eq_true', Bool.or_eq_false_iff, Bool.and_eq_true, Bool.and_eq_false_iff, decide_eq_true_eq, decide_eq_false_iff_not]
  omega
def zeroR (r : Int) : Bool := !mayR r || inR r 0 31 || inR r 127 159 || inR r 768 879 || inR r 8203 8207 || inR r 65024 65039
def twoR (r : Int) : Bool := inR r 4352 4447 || inR r 11904 12350 || inR r 12353 42191 || inR r 44032 55203 || inR r 63744 64255 || inR r 65072 65135 || inR r 65280 65376 || inR r 65504 65510 || inR r 127744 128591 || inR r 131072 262141
theorem zeroR_eq (r : Int) : zeroR r = (pre r || anyIn tabN r) := by
  rw [← ref_pre]
  unfold zeroR anyIn tabN
  simp [Bool.or_assoc]
theorem twoR_eq (r : Int) : twoR r = anyIn tabW r := by
  unfold twoR anyIn tabW
  simp [Bool.or_assoc]
theorem width_ref0 {r : Int} (h : zeroR r = true) : width r = 0 := by unfold width; rw [← zeroR_eq, h]; rfl
theorem width_ref2 {r : Int} (h : zeroR r = false) (k : twoR r = true) : width r = 2 := by unfold width; rw [← zeroR_eq, h, ← twoR_eq, k]; rfl
theorem width_ref1 {r : Int} (h : zeroR r = false) (k : twoR r = false) : width r = 1 := by unfold width; rw [← zeroR_eq, h, ← twoR_eq, k]; rfl
theorem in_any (r a b : Int) (w : World) : Calls Tryd.prog 69 #[.int .i32 r, .int .i32 a, .int .i32 b] w fun e w' => e = .returned (.bool (inR r a b)) ∧ w = w' := by
  cases h1 : decide (a ≤ r) with
  | true =>
    go_enter Tryd.func69, Tryd.ntmps69
    go_wp2_with fail
    go_ret
    exact ⟨by unfold inR; rw [h1]; rfl, rfl⟩
  | false =>
    go_enter Tryd.func69, Tryd.ntmps69
    go_wp2_with fail
    go_ret
    exact ⟨by unfold inR; rw [h1]; rfl, rfl⟩
theorem rmay_any (r : Int) (w : World) : Calls Tryd.prog 68 #[.int .i32 r] w fun e w' => e = .returned (.bool (mayR r)) ∧ w = w' := by
  cases h1 : decide (0 ≤ r) with
  | true =>
    cases h2 : decide (r ≤ 55295) with
    | true =>
      go_enter Tryd.func68, Tryd.ntmps68
      go_wp2_with fail
      go_ret
      exact ⟨by unfold mayR inR; simp [h1, h2], rfl⟩
    | false =>
      cases h3 : decide (57344 ≤ r) with
      | true =>
        go_enter Tryd.func68, Tryd.ntmps68
        go_wp2_with fail
        go_ret
        exact ⟨by unfold mayR inR; simp [h2, h3], rfl⟩
      | false =>
        go_enter Tryd.func68, Tryd.ntmps68
        go_wp2_with fail
        go_ret
        exact ⟨by unfold mayR inR; simp [h2, h3], rfl⟩
  | false =>
    have h3 : decide (57344 ≤ r) = false := decide_eq_false (by have := of_decide_eq_false h1; omega)
    go_enter Tryd.func68, Tryd.ntmps68
    go_wp2_with fail
    go_ret
    exact ⟨by unfold mayR inR; simp [h1, h3], rfl⟩
set_option maxRecDepth 10000 in
set_option maxHeartbeats 2000000 in
theorem ref_width_any (r : Int) (w : World) : Calls Tryd.prog 47 #[.int .i32 r] w fun e w' => e = .returned (.int .i64 (width r)) ∧ w = w' := by
  go_enter Tryd.func47, Tryd.ntmps47
  go_upto_region 1 with fail
  go_cut [25] (fun b wc => b = .bool (zeroR r) ∧ w = wc)
  case first =>
    cases h0 : mayR r with
    | false =>
      go_wp2_with (first
        | (go_at_call 69; refine (in_any _ _ _ _).mono ?_; rintro e w' ⟨rfl, rfl⟩)
        | (go_at_call 68; refine (rmay_any _ _).mono ?_; rintro e w' ⟨rfl, rfl⟩)
        | go_in)
      go_meet
      exact ⟨by unfold zeroR; simp [*], rfl⟩
    | true =>
      cases h1 : inR r 0 31 with
      | true =>
        go_wp2_with (first
          | (go_at_call 69; refine (in_any _ _ _ _).mono ?_; rintro e w' ⟨rfl, rfl⟩)
          | (go_at_call 68; refine (rmay_any _ _).mono ?_; rintro e w' ⟨rfl, rfl⟩)
          | go_in)
        go_meet
        exact ⟨by unfold zeroR; simp [*], rfl⟩
      | false =>
        cases h2 : inR r 127 159 with
        | true =>
          go_wp2_with (first
            | (go_at_call 69; refine (in_any _ _ _ _).mono ?_; rintro e w' ⟨rfl, rfl⟩)
            | (go_at_call 68; refine (rmay_any _ _).mono ?_; rintro e w' ⟨rfl, rfl⟩)
            | go_in)
          go_meet
          exact ⟨by unfold zeroR; simp [*], rfl⟩
        | false =>
          cases h3 : inR r 768 879 with
          | true =>
            go_wp2_with (first
              | (go_at_call 69; refine (in_any _ _ _ _).mono ?_; rintro e w' ⟨rfl, rfl⟩)
              | (go_at_call 68; refine (rmay_any _ _).mono ?_; rintro e w' ⟨rfl, rfl⟩)
              | go_in)
            go_meet
            exact ⟨by unfold zeroR; simp [*], rfl⟩
          | false =>
            cases h4 : inR r 8203 8207 with
            | true =>
              go_wp2_with (first
                | (go_at_call 69; refine (in_any _ _ _ _).mono ?_; rintro e w' ⟨rfl, rfl⟩)
                | (go_at_call 68; refine (rmay_any _ _).mono ?_; rintro e w' ⟨rfl, rfl⟩)
                | go_in)
              go_meet
              exact ⟨by unfold zeroR; simp [*], rfl⟩
            | false =>
              cases h5 : inR r 65024 65039 with
              | true =>
                go_wp2_with (first
                  | (go_at_call 69; refine (in_any _ _ _ _).mono ?_; rintro e w' ⟨rfl, rfl⟩)
                  | (go_at_call 68; refine (rmay_any _ _).mono ?_; rintro e w' ⟨rfl, rfl⟩)
                  | go_in)
                go_meet
                exact ⟨by unfold zeroR; simp [*], rfl⟩
              | false =>
                go_wp2_with (first
                  | (go_at_call 69; refine (in_any _ _ _ _).mono ?_; rintro e w' ⟨rfl, rfl⟩)
                  | (go_at_call 68; refine (rmay_any _ _).mono ?_; rintro e w' ⟨rfl, rfl⟩)
                  | go_in)
                go_meet
                exact ⟨by unfold zeroR; simp [*], rfl⟩
  case rest =>
    obtain ⟨rfl, rfl⟩ := hcut
    cases hz : zeroR r with
    | true =>
      have HZ := Lib.hid (width_ref0 hz)
      clear hz
      go_wp2_with fail
      go_ret
      exact ⟨by rw [HZ.out]; rfl, rfl⟩
    | false =>
      go_upto_region 3 with fail
      go_cut [63] (fun b wc => b = .bool (twoR r) ∧ w = wc)
      case first =>
        cases h0 : inR r 4352 4447 with
        | true =>
          go_wp2_with (first
            | (go_at_call 69; refine (in_any _ _ _ _).mono ?_; rintro e w' ⟨rfl, rfl⟩)
            | (go_at_call 68; refine (rmay_any _ _).mono ?_; rintro e w' ⟨rfl, rfl⟩)
            | go_in)
          go_meet
          exact ⟨by unfold twoR; simp [*], rfl⟩
        | false =>
          cases h1 : inR r 11904 12350 with
          | true =>
            go_wp2_with (first
              | (go_at_call 69; refine (in_any _ _ _ _).mono ?_; rintro e w' ⟨rfl, rfl⟩)
              | (go_at_call 68; refine (rmay_any _ _).mono ?_; rintro e w' ⟨rfl, rfl⟩)
              | go_in)
            go_meet
            exact ⟨by unfold twoR; simp [*], rfl⟩
          | false =>
            cases h2 : inR r 12353 42191 with
            | true =>
              go_wp2_with (first
                | (go_at_call 69; refine (in_any _ _ _ _).mono ?_; rintro e w' ⟨rfl, rfl⟩)
                | (go_at_call 68; refine (rmay_any _ _).mono ?_; rintro e w' ⟨rfl, rfl⟩)
                | go_in)
              go_meet
              exact ⟨by unfold twoR; simp [*], rfl⟩
            | false =>
              cases h3 : inR r 44032 55203 with
              | true =>
                go_wp2_with (first
                  | (go_at_call 69; refine (in_any _ _ _ _).mono ?_; rintro e w' ⟨rfl, rfl⟩)
                  | (go_at_call 68; refine (rmay_any _ _).mono ?_; rintro e w' ⟨rfl, rfl⟩)
                  | go_in)
                go_meet
                exact ⟨by unfold twoR; simp [*], rfl⟩
              | false =>
                cases h4 : inR r 63744 64255 with
                | true =>
                  go_wp2_with (first
                    | (go_at_call 69; refine (in_any _ _ _ _).mono ?_; rintro e w' ⟨rfl, rfl⟩)
                    | (go_at_call 68; refine (rmay_any _ _).mono ?_; rintro e w' ⟨rfl, rfl⟩)
                    | go_in)
                  go_meet
                  exact ⟨by unfold twoR; simp [*], rfl⟩
                | false =>
                  cases h5 : inR r 65072 65135 with
                  | true =>
                    go_wp2_with (first
                      | (go_at_call 69; refine (in_any _ _ _ _).mono ?_; rintro e w' ⟨rfl, rfl⟩)
                      | (go_at_call 68; refine (rmay_any _ _).mono ?_; rintro e w' ⟨rfl, rfl⟩)
                      | go_in)
                    go_meet
                    exact ⟨by unfold twoR; simp [*], rfl⟩
                  | false =>
                    cases h6 : inR r 65280 65376 with
                    | true =>
                      go_wp2_with (first
                        | (go_at_call 69; refine (in_any _ _ _ _).mono ?_; rintro e w' ⟨rfl, rfl⟩)
                        | (go_at_call 68; refine (rmay_any _ _).mono ?_; rintro e w' ⟨rfl, rfl⟩)
                        | go_in)
                      go_meet
                      exact ⟨by unfold twoR; simp [*], rfl⟩
                    | false =>
                      cases h7 : inR r 65504 65510 with
                      | true =>
                        go_wp2_with (first
                          | (go_at_call 69; refine (in_any _ _ _ _).mono ?_; rintro e w' ⟨rfl, rfl⟩)
                          | (go_at_call 68; refine (rmay_any _ _).mono ?_; rintro e w' ⟨rfl, rfl⟩)
                          | go_in)
                        go_meet
                        exact ⟨by unfold twoR; simp [*], rfl⟩
                      | false =>
                        cases h8 : inR r 127744 128591 with
                        | true =>
                          go_wp2_with (first
                            | (go_at_call 69; refine (in_any _ _ _ _).mono ?_; rintro e w' ⟨rfl, rfl⟩)
                            | (go_at_call 68; refine (rmay_any _ _).mono ?_; rintro e w' ⟨rfl, rfl⟩)
                            | go_in)
                          go_meet
                          exact ⟨by unfold twoR; simp [*], rfl⟩
                        | false =>
                          cases h9 : inR r 131072 262141 with
                          | true =>
                            go_wp2_with (first
                              | (go_at_call 69; refine (in_any _ _ _ _).mono ?_; rintro e w' ⟨rfl, rfl⟩)
                              | (go_at_call 68; refine (rmay_any _ _).mono ?_; rintro e w' ⟨rfl, rfl⟩)
                              | go_in)
                            go_meet
                            exact ⟨by unfold twoR; simp [*], rfl⟩
                          | false =>
                            go_wp2_with (first
                              | (go_at_call 69; refine (in_any _ _ _ _).mono ?_; rintro e w' ⟨rfl, rfl⟩)
                              | (go_at_call 68; refine (rmay_any _ _).mono ?_; rintro e w' ⟨rfl, rfl⟩)
                              | go_in)
                            go_meet
                            exact ⟨by unfold twoR; simp [*], rfl⟩
      case rest =>
        obtain ⟨rfl, rfl⟩ := hcut
        cases ht : twoR r with
        | true =>
          have HZ := Lib.hid (width_ref2 hz ht)
          clear hz ht
          go_wp2_with fail
          go_ret
          exact ⟨by rw [HZ.out]; rfl, rfl⟩
        | false =>
          have HZ := Lib.hid (width_ref1 hz ht)
          clear hz ht
          go_wp2_with fail
          go_ret
          exact ⟨by rw [HZ.out]; rfl, rfl⟩
end Go.Proofs.YtlhcehealjdbdaaDoor
/- Which colours, pens and cells may be; a pen's blank. -/
namespace Go.Proofs.YtlhcehealjdbdaaDoor
open Go.RowKit
attribute [local go_sem] alloc_drewN setCell_drewN


def RVal (v : Value) (w : World) (e : Ending) (w' : World) : Prop := e = .returned v ∧ Below w.heap.size w w'
theorem RVal.as {P : Program} {f : FuncId} {args : Array Value} {w : World} {v v' : Value} (h : Calls P f args w (RVal v w)) (e : v = v') : Calls P f args w (RVal v' w) := by
  subst e
  exact h
def colorMay (c : Int) : Bool := decide (c ≤ 256) || decide (16777216 ≤ c) && decide (c < 33554432)
def penMay (f b : Int) : Bool := colorMay f && colorMay b
def blank (b : Int) : Glyph := ⟨32, 0, 0, b, 0, 0⟩
def gmay (c : Glyph) : Bool := penMay c.f c.b && (if c.w = 0 then width c.r == 1 else if c.w = 1 then width c.r == 2 else c.w == 2 && c.r == 0)
theorem color_any (c : Int) (w : World) : Calls Tryd.prog 16 #[.int .u32 c] w (RVal (.bool (colorMay c)) w) := by
  cases h1 : decide (c ≤ 256) with
  | true =>
    go_enter Tryd.func16, Tryd.ntmps16
    go_wp2_with fail
    go_ret
    exact ⟨by unfold colorMay; rw [h1]; rfl, Below.refl _ _⟩
  | false =>
    cases h2 : decide (16777216 ≤ c) with
    | false =>
      go_enter Tryd.func16, Tryd.ntmps16
      go_wp2_with fail
      go_ret
      exact ⟨by unfold colorMay; rw [h1, h2]; rfl, Below.refl _ _⟩
    | true =>
      cases h3 : decide (c ≤ 33554431) with
      | false =>
        have h4 : decide (c < 33554432) = false := by rw [← h3]; exact decide_eq_decide.2 (by omega)
        have HZ : Hid (colorMay c = false) := by unfold colorMay; rw [h1, h2, h4]; rfl
        clear h4
        go_enter Tryd.func16, Tryd.ntmps16
        go_wp2_with fail
        go_ret
        exact ⟨by rw [HZ.out]; rfl, Below.refl _ _⟩
      | true =>
        have h4 : decide (c < 33554432) = true := by rw [← h3]; exact decide_eq_decide.2 (by omega)
        have HZ : Hid (colorMay c = true) := by unfold colorMay; rw [h1, h2, h4]; rfl
        clear h4
        go_enter Tryd.func16, Tryd.ntmps16
        go_wp2_with fail
        go_ret
        exact ⟨by rw [HZ.out]; rfl, Below.refl _ _⟩
theorem ref_color_any (c : Int) (w : World) : Calls Tryd.prog 17 #[.int .u32 c] w (RVal (.bool (colorMay c)) w) := by
  cases h1 : decide (c ≤ 256) with
  | true =>
    go_enter Tryd.func17, Tryd.ntmps17
    go_wp2_with fail
    go_ret
    exact ⟨by unfold colorMay; rw [h1]; rfl, Below.refl _ _⟩
  | false =>
    cases h2 : decide (16777216 ≤ c) with
    | false =>
      go_enter Tryd.func17, Tryd.ntmps17
      go_wp2_with fail
      go_ret
      exact ⟨by unfold colorMay; rw [h1, h2]; rfl, Below.refl _ _⟩
    | true =>
      cases h3 : decide (c < 33554432) with
      | false =>
        skip
        have HZ : Hid (colorMay c = false) := by unfold colorMay; rw [h1, h2, h3]; rfl
        skip
        go_enter Tryd.func17, Tryd.ntmps17
        go_wp2_with fail
        go_ret
        exact ⟨by rw [HZ.out]; rfl, Below.refl _ _⟩
      | true =>
        skip
        have HZ : Hid (colorMay c = true) := by unfold colorMay; rw [h1, h2, h3]; rfl
        skip
        go_enter Tryd.func17, Tryd.ntmps17
        go_wp2_with fail
        go_ret
        exact ⟨by rw [HZ.out]; rfl, Below.refl _ _⟩
theorem pen_any (f b a l : Int) (w : World) : Calls Tryd.prog 45 #[(.agg #[.int .u32 f, .int .u32 b, .int .u8 a, .int .u16 l])] w (RVal (.bool (penMay f b)) w) := by
  obtain ⟨bf, hf⟩ : ∃ x, colorMay f = x := ⟨_, rfl⟩
  obtain ⟨bb, hb⟩ : ∃ x, colorMay b = x := ⟨_, rfl⟩
  have HF := Lib.hid hf
  have HBX := Lib.hid hb
  have hob := Own.new w 26 #[.int .u32 f, .int .u32 b, .int .u8 a, .int .u16 l]
  have HOB := Lib.hid hob
  clear hf hb hob
  go_enter Tryd.func45, Tryd.ntmps45
  go_wp2_with fail
  refine (RVal.as (color_any f _) (congrArg Value.bool HF.out)).mono ?_
  rintro e w1 ⟨rfl, b1⟩
  have e1 := Own.cell (HOB.out.below b1 (by simp)) 1
  simp only [List.getElem?_toArray, List.getElem?_cons_zero, List.getElem?_cons_succ] at e1
  cases bf with
  | false =>
    go_wp2_with fail
    go_ret
    exact ⟨by unfold penMay; rw [HF.out]; rfl, ((Below.refl _ _).alloc (Nat.le_refl _) _).trans (b1.mono (by simp))⟩
  | true =>
    go_wp2_with fail
    refine (RVal.as (color_any b _) (congrArg Value.bool HBX.out)).mono ?_
    rintro e w2 ⟨rfl, b2⟩
    go_wp2_with fail
    go_ret
    exact ⟨by unfold penMay; rw [HF.out, HBX.out]; rfl, ((Below.refl _ _).alloc (Nat.le_refl _) _).trans ((b1.trans (b2.mono b1.size)).mono (by simp))⟩
theorem ref_pen_any (f b a l : Int) (w : World) : Calls Tryd.prog 25 #[(.agg #[.int .u32 f, .int .u32 b, .int .u8 a, .int .u16 l])] w (RVal (.bool (penMay f b)) w) := by
  obtain ⟨bf, hf⟩ : ∃ x, colorMay f = x := ⟨_, rfl⟩
  obtain ⟨bb, hb⟩ : ∃ x, colorMay b = x := ⟨_, rfl⟩
  have HF := Lib.hid hf
  have HBX := Lib.hid hb
  have hob := Own.new w 26 #[.int .u32 f, .int .u32 b, .int .u8 a, .int .u16 l]
  have HOB := Lib.hid hob
  clear hf hb hob
  go_enter Tryd.func25, Tryd.ntmps25
  go_wp2_with fail
  refine (RVal.as (ref_color_any f _) (congrArg Value.bool HF.out)).mono ?_
  rintro e w1 ⟨rfl, b1⟩
  have e1 := Own.cell (HOB.out.below b1 (by simp)) 1
  simp only [List.getElem?_toArray, List.getElem?_cons_zero, List.getElem?_cons_succ] at e1
  cases bf with
  | false =>
    go_wp2_with fail
    go_ret
    exact ⟨by unfold penMay; rw [HF.out]; rfl, ((Below.refl _ _).alloc (Nat.le_refl _) _).trans (b1.mono (by simp))⟩
  | true =>
    go_wp2_with fail
    refine (RVal.as (ref_color_any b _) (congrArg Value.bool HBX.out)).mono ?_
    rintro e w2 ⟨rfl, b2⟩
    go_wp2_with fail
    go_ret
    exact ⟨by unfold penMay; rw [HF.out, HBX.out]; rfl, ((Below.refl _ _).alloc (Nat.le_refl _) _).trans ((b1.trans (b2.mono b1.size)).mono (by simp))⟩
theorem gpen_any (f b a l : Int) (w : World) : Calls Tryd.prog 74 #[(.agg #[.int .u32 f, .int .u32 b, .int .u8 a, .int .u16 l])] w (RVal (.bool (penMay f b)) w) := by
  obtain ⟨bf, hf⟩ : ∃ x, colorMay f = x := ⟨_, rfl⟩
  obtain ⟨bb, hb⟩ : ∃ x, colorMay b = x := ⟨_, rfl⟩
  have HF := Lib.hid hf
  have HBX := Lib.hid hb
  have hob := Own.new w 26 #[.int .u32 f, .int .u32 b, .int .u8 a, .int .u16 l]
  have HOB := Lib.hid hob
  clear hf hb hob
  go_enter Tryd.func74, Tryd.ntmps74
  go_wp2_with fail
  refine (RVal.as (color_any f _) (congrArg Value.bool HF.out)).mono ?_
  rintro e w1 ⟨rfl, b1⟩
  have e1 := Own.cell (HOB.out.below b1 (by simp)) 1
  simp only [List.getElem?_toArray, List.getElem?_cons_zero, List.getElem?_cons_succ] at e1
  cases bf with
  | false =>
    go_wp2_with fail
    go_ret
    exact ⟨by unfold penMay; rw [HF.out]; rfl, ((Below.refl _ _).alloc (Nat.le_refl _) _).trans (b1.mono (by simp))⟩
  | true =>
    go_wp2_with fail
    refine (RVal.as (color_any b _) (congrArg Value.bool HBX.out)).mono ?_
    rintro e w2 ⟨rfl, b2⟩
    go_wp2_with fail
    go_ret
    exact ⟨by unfold penMay; rw [HF.out, HBX.out]; rfl, ((Below.refl _ _).alloc (Nat.le_refl _) _).trans ((b1.trans (b2.mono b1.size)).mono (by simp))⟩
theorem blank_any (f b a l : Int) (w : World) : Calls Tryd.prog 22 #[(.agg #[.int .u32 f, .int .u32 b, .int .u8 a, .int .u16 l])] w (RVal (.agg #[.int .i32 (blank b).r, .int .u8 (blank b).w, .int .u32 (blank b).f, .int .u32 (blank b).b, .int .u8 (blank b).a, .int .u16 (blank b).l]) w) := by
  go_enter Tryd.func22, Tryd.ntmps22
  go_wp2_with fail
  refine bodyPost_ret (v := (.agg #[.int .i32 (blank b).r, .int .u8 (blank b).w, .int .u32 (blank b).f, .int .u32 (blank b).b, .int .u8 (blank b).a, .int .u16 (blank b).l])) (by simp [results, Tryd.results22, go_sem, blank]) rfl ?_
  exact ⟨rfl, ((Below.refl _ _).alloc (Nat.le_refl _) _).alloc (by simp) _⟩
theorem ref_blank_any (f b a l : Int) (w : World) : Calls Tryd.prog 23 #[(.agg #[.int .u32 f, .int .u32 b, .int .u8 a, .int .u16 l])] w (RVal (.agg #[.int .i32 (blank b).r, .int .u8 (blank b).w, .int .u32 (blank b).f, .int .u32 (blank b).b, .int .u8 (blank b).a, .int .u16 (blank b).l]) w) := by
  go_enter Tryd.func23, Tryd.ntmps23
  go_wp2_with fail
  refine bodyPost_ret (v := (.agg #[.int .i32 (blank b).r, .int .u8 (blank b).w, .int .u32 (blank b).f, .int .u32 (blank b).b, .int .u8 (blank b).a, .int .u16 (blank b).l])) (by simp [results, Tryd.results23, go_sem, blank]) rfl ?_
  exact ⟨rfl, ((Below.refl _ _).alloc (Nat.le_refl _) _).alloc (by simp) _⟩
end Go.Proofs.YtlhcehealjdbdaaDoor
/- Which cells may be. -/
namespace Go.Proofs.YtlhcehealjdbdaaDoor
open Go.RowKit
attribute [local go_sem] alloc_drewN setCell_drewN


set_option maxHeartbeats 1000000 in
theorem may_any (c : Glyph) (w : World) (ht : Tabs w) : Calls Tryd.prog 18 #[(.agg #[.int .i32 c.r, .int .u8 c.w, .int .u32 c.f, .int .u32 c.b, .int .u8 c.a, .int .u16 c.l])] w (RVal (.bool (gmay c)) w) := by
  obtain ⟨pm, hp⟩ : ∃ x, penMay c.f c.b = x := ⟨_, rfl⟩
  have HP := Lib.hid hp
  have hob := Own.new w 28 #[.int .i32 c.r, .int .u8 c.w, .int .u32 c.f, .int .u32 c.b, .int .u8 c.a, .int .u16 c.l]
  have B0 : Hid (Below w.heap.size w (w.alloc (.cells #[.int .i32 c.r, .int .u8 c.w, .int .u32 c.f, .int .u32 c.b, .int .u8 c.a, .int .u16 c.l] 28))) := (Below.refl _ _).alloc (Nat.le_refl _) _
  have hlt : w.heap.size < (w.alloc (.cells #[.int .i32 c.r, .int .u8 c.w, .int .u32 c.f, .int .u32 c.b, .int .u8 c.a, .int .u16 c.l] 28)).heap.size := by simp
  have HT := Lib.hid ht
  clear hp ht
  go_enter Tryd.func18, Tryd.ntmps18
  go_wp2_with fail
  refine (RVal.as (pen_any c.f c.b c.a c.l _) (congrArg Value.bool HP.out)).mono ?_
  rintro e w1 ⟨rfl, b1⟩
  have B1 : Hid (Below w.heap.size w w1) := B0.out.trans (b1.mono B0.out.size)
  have hlt1 : w.heap.size < w1.heap.size := Nat.lt_of_lt_of_le hlt b1.size
  have ho1 := hob.below b1 hlt
  have e0 := Own.cell ho1 0
  have e1 := Own.cell ho1 1
  have HO1 := Lib.hid ho1
  simp only [List.getElem?_toArray, List.getElem?_cons_zero, List.getElem?_cons_succ] at e0 e1
  clear ho1 hob b1
  cases pm with
  | false =>
    have HZ : Hid (gmay c = false) := by unfold gmay; rw [HP.out]; rfl
    go_wp2_with fail
    go_ret
    exact ⟨by rw [HZ.out]; rfl, B1.out⟩
  | true =>
    by_cases h0 : c.w = 0
    · have hd0 : (c.w == 0) = true := beq_iff_eq.2 h0
      have HZ : Hid (gmay c = (width c.r == 1)) := by unfold gmay; rw [HP.out, if_pos h0]; rfl
      clear h0
      go_wp2_with fail
      refine (width_any c.r _ (HT.out.below B1.out)).mono ?_
      rintro e w2 ⟨rfl, b2⟩
      have B2 := Lib.hid (B1.out.trans (b2.mono B1.out.size))
      clear b2
      go_wp2_with fail
      go_ret
      exact ⟨by rw [HZ.out]; rfl, B2.out⟩
    · have hd0 : (c.w == 0) = false := beq_eq_false_iff_ne.2 h0
      by_cases h1 : c.w = 1
      · have hd1 : (c.w == 1) = true := beq_iff_eq.2 h1
        have HZ : Hid (gmay c = (width c.r == 2)) := by unfold gmay; rw [HP.out, if_neg h0, if_pos h1]; rfl
        clear h0 h1
        go_wp2_with fail
        refine (width_any c.r _ (HT.out.below B1.out)).mono ?_
        rintro e w2 ⟨rfl, b2⟩
        have B2 := Lib.hid (B1.out.trans (b2.mono B1.out.size))
        clear b2
        go_wp2_with fail
        go_ret
        exact ⟨by rw [HZ.out]; rfl, B2.out⟩
      · have hd1 : (c.w == 1) = false := beq_eq_false_iff_ne.2 h1
        have HZ : Hid (gmay c = (c.w == 2 && c.r == 0)) := by unfold gmay; rw [HP.out, if_neg h0, if_neg h1]; rfl
        clear h0 h1
        cases hd2 : (c.w == 2) with
        | true =>
          rw [hd2] at HZ
          go_wp2_with fail
          go_ret
          exact ⟨by rw [HZ.out]; rfl, B1.out⟩
        | false =>
          rw [hd2] at HZ
          go_wp2_with fail
          go_ret
          exact ⟨by rw [HZ.out]; rfl, B1.out⟩
set_option maxHeartbeats 1000000 in
theorem ref_may_any (c : Glyph) (w : World) : Calls Tryd.prog 19 #[(.agg #[.int .i32 c.r, .int .u8 c.w, .int .u32 c.f, .int .u32 c.b, .int .u8 c.a, .int .u16 c.l])] w (RVal (.bool (gmay c)) w) := by
  obtain ⟨pm, hp⟩ : ∃ x, penMay c.f c.b = x := ⟨_, rfl⟩
  have HP := Lib.hid hp
  have hob := Own.new w 28 #[.int .i32 c.r, .int .u8 c.w, .int .u32 c.f, .int .u32 c.b, .int .u8 c.a, .int .u16 c.l]
  have B0 : Hid (Below w.heap.size w (w.alloc (.cells #[.int .i32 c.r, .int .u8 c.w, .int .u32 c.f, .int .u32 c.b, .int .u8 c.a, .int .u16 c.l] 28))) := (Below.refl _ _).alloc (Nat.le_refl _) _
  have hlt : w.heap.size < (w.alloc (.cells #[.int .i32 c.r, .int .u8 c.w, .int .u32 c.f, .int .u32 c.b, .int .u8 c.a, .int .u16 c.l] 28)).heap.size := by simp
  clear hp
  go_enter Tryd.func19, Tryd.ntmps19
  go_wp2_with fail
  refine (ref_width_any c.r _).mono ?_
  rintro e w1 ⟨rfl, rfl⟩
  go_wp2_with fail
  refine (RVal.as (ref_pen_any c.f c.b c.a c.l _) (congrArg Value.bool HP.out)).mono ?_
  rintro e w1 ⟨rfl, b1⟩
  have B1 : Hid (Below w.heap.size w w1) := B0.out.trans (b1.mono B0.out.size)
  have ho1 := hob.below b1 hlt
  have e0 := Own.cell ho1 0
  have e1 := Own.cell ho1 1
  simp only [List.getElem?_toArray, List.getElem?_cons_zero, List.getElem?_cons_succ] at e0 e1
  clear ho1 hob b1
  cases pm with
  | false =>
    have HZ : Hid (gmay c = false) := by unfold gmay; rw [HP.out]; rfl
    go_wp2_with fail
    go_ret
    exact ⟨by rw [HZ.out]; rfl, B1.out⟩
  | true =>
    by_cases h0 : c.w = 0
    · have hd0 : (c.w == 0) = true := beq_iff_eq.2 h0
      have hd1 : (c.w == 1) = false := by rw [h0]; rfl
      have hd2 : (c.w == 2) = false := by rw [h0]; rfl
      have HZ : Hid (gmay c = (width c.r == 1)) := by unfold gmay; rw [HP.out, if_pos h0]; rfl
      clear h0
      cases hw : (width c.r == 1) with
      | true =>
        rw [hw] at HZ
        go_wp2_with fail
        go_ret
        exact ⟨by rw [HZ.out]; rfl, B1.out⟩
      | false =>
        rw [hw] at HZ
        go_wp2_with fail
        go_ret
        exact ⟨by rw [HZ.out]; rfl, B1.out⟩
    · have hd0 : (c.w == 0) = false := beq_eq_false_iff_ne.2 h0
      by_cases h1 : c.w = 1
      · have hd1 : (c.w == 1) = true := beq_iff_eq.2 h1
        have hd2 : (c.w == 2) = false := by rw [h1]; rfl
        have HZ : Hid (gmay c = (width c.r == 2)) := by unfold gmay; rw [HP.out, if_neg h0, if_pos h1]; rfl
        clear h0 h1
        cases hw : (width c.r == 2) with
        | true =>
          rw [hw] at HZ
          go_wp2_with fail
          go_ret
          exact ⟨by rw [HZ.out]; rfl, B1.out⟩
        | false =>
          rw [hw] at HZ
          go_wp2_with fail
          go_ret
          exact ⟨by rw [HZ.out]; rfl, B1.out⟩
      · have hd1 : (c.w == 1) = false := beq_eq_false_iff_ne.2 h1
        have HZ : Hid (gmay c = (c.w == 2 && c.r == 0)) := by unfold gmay; rw [HP.out, if_neg h0, if_neg h1]; rfl
        clear h0 h1
        cases hd2 : (c.w == 2) with
        | true =>
          rw [hd2] at HZ
          go_wp2_with fail
          go_ret
          exact ⟨by rw [HZ.out]; rfl, B1.out⟩
        | false =>
          rw [hd2] at HZ
          go_wp2_with fail
          go_ret
          exact ⟨by rw [HZ.out]; rfl, B1.out⟩
end Go.Proofs.YtlhcehealjdbdaaDoor
/- Which rows may be: what the document says, and what the program asks, in plain Lean. -/
namespace Go.Proofs.YtlhcehealjdbdaaDoor
open Go.RowKit

def Glyph.pen (c : Glyph) : Int × Int × Int × Int := (c.f, c.b, c.a, c.l)
def at_ (xs : List Glyph) (i : Nat) : Glyph := xs.getD i g0
/-- The cell fits where it stands. -/
def CellOk (xs : List Glyph) (i : Nat) : Prop := gmay (at_ xs i) = true ∧ ((at_ xs i).w = 1 → i + 1 < xs.length ∧ (at_ xs (i + 1)).w = 2 ∧ (at_ xs (i + 1)).pen = (at_ xs i).pen) ∧ ((at_ xs i).w = 2 → 0 < i ∧ (at_ xs (i - 1)).w = 1)
def RowOk (xs : List Glyph) : Prop := 1 ≤ xs.length ∧ xs.length ≤ 80 ∧ ∀ i, i < xs.length → CellOk xs i
noncomputable def rowMay (xs : List Glyph) : Bool := @decide (RowOk xs) (Classical.propDecidable _)
theorem row_yes {xs : List Glyph} (h : RowOk xs) : rowMay xs = true := by unfold rowMay; exact @decide_eq_true _ (Classical.propDecidable _) h
theorem row_no {xs : List Glyph} (h : ¬ RowOk xs) : rowMay xs = false := by unfold rowMay; exact @decide_eq_false _ (Classical.propDecidable _) h
theorem row_iff {xs : List Glyph} : rowMay xs = true ↔ RowOk xs := ⟨fun h => by unfold rowMay at h; exact @of_decide_eq_true _ (Classical.propDecidable _) h, row_yes⟩
/-- The cell fits behind the one ahead of it. -/
def BackOk (xs : List Glyph) (i : Nat) : Prop := gmay (at_ xs i) = true ∧ ((0 < i ∧ (at_ xs (i - 1)).w = 1) ↔ (at_ xs i).w = 2) ∧ (0 < i → (at_ xs (i - 1)).w = 1 → (at_ xs (i - 1)).pen = (at_ xs i).pen)
theorem row_back {xs : List Glyph} (h1 : 1 ≤ xs.length) (h2 : xs.length ≤ 80) : RowOk xs ↔ (∀ i, i < xs.length → BackOk xs i) ∧ (at_ xs (xs.length - 1)).w ≠ 1 := by
  constructor
  · intro h
    refine ⟨fun i hi => ⟨(h.2.2 i hi).1, ⟨fun k => ?_, fun k => (h.2.2 i hi).2.2 k⟩, fun k0 k1 => ?_⟩, fun k => ?_⟩
    · have := ((h.2.2 (i - 1) (by omega)).2.1 k.2).2.1
      rwa [Nat.sub_add_cancel k.1] at this
    · have := ((h.2.2 (i - 1) (by omega)).2.1 k1).2.2
      rw [Nat.sub_add_cancel k0] at this
      exact this.symm
    · have := ((h.2.2 (xs.length - 1) (by omega)).2.1 k).1
      omega
  · rintro ⟨h, hl⟩
    refine ⟨h1, h2, fun i hi => ⟨(h i hi).1, fun k => ?_, fun k => (h i hi).2.1.2 k⟩⟩
    have hi1 : i + 1 < xs.length := by
      rcases Nat.lt_or_ge (i + 1) xs.length with q | q
      · exact q
      · have : i = xs.length - 1 := by omega
        subst this
        exact absurd k hl
    have hb := h (i + 1) hi1
    rw [BackOk, Nat.add_sub_cancel] at hb
    exact ⟨hi1, hb.2.1.1 ⟨by omega, k⟩, (hb.2.2 (by omega) k).symm⟩
theorem pen_eq (x y : Glyph) : (decide (x.pen = y.pen)) = (x.f == y.f && x.b == y.b && x.a == y.a && x.l == y.l) := by
  rw [Bool.eq_iff_iff]
  simp [Glyph.pen, and_assoc]
theorem pneq (x y : Glyph) (W : World) : (binOp .neq 26 (.agg #[.int .u32 x.f, .int .u32 x.b, .int .u8 x.a, .int .u16 x.l]) (.agg #[.int .u32 y.f, .int .u32 y.b, .int .u8 y.a, .int .u16 y.l])).run Tryd.prog W = .ok (.bool (!decide (x.pen = y.pen))) W := by
  rw [pen_eq]
  go_simp
  by_cases h2 : x.f = y.f <;> by_cases h3 : x.b = y.b <;> by_cases h4 : x.a = y.a <;> by_cases h5 : x.l = y.l <;> simp [h2, h3, h4, h5]
theorem pneq_yes {x y : Glyph} (h : x.pen ≠ y.pen) (W : World) : (binOp .neq 26 (.agg #[.int .u32 x.f, .int .u32 x.b, .int .u8 x.a, .int .u16 x.l]) (.agg #[.int .u32 y.f, .int .u32 y.b, .int .u8 y.a, .int .u16 y.l])).run Tryd.prog W = .ok (.bool true) W := by rw [pneq, decide_eq_false h]; rfl
theorem pneq_no {x y : Glyph} (h : x.pen = y.pen) (W : World) : (binOp .neq 26 (.agg #[.int .u32 x.f, .int .u32 x.b, .int .u8 x.a, .int .u16 x.l]) (.agg #[.int .u32 y.f, .int .u32 y.b, .int .u8 y.a, .int .u16 y.l])).run Tryd.prog W = .ok (.bool false) W := by rw [pneq, decide_eq_true h]; rfl
end Go.Proofs.YtlhcehealjdbdaaDoor
