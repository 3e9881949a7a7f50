/- What the feat package's functions compute: Ceiling, Choose, and the law's own fixed examples. -/
import Derived.Test.YtblhbhhgpfcfbaaRows
import Derived.Test.YtblhbhhgpfcfbaaReg
import Derived.WalkKit
import Derived.WalkSpells
import Derived.WalkLawsBesides
import Derived.Lib.Hide
import Derived.Deep.RegionHeld3
import Derived.Deep.QuietTactic
import Derived.BigQuiet
import Derived.Deep.Draws
namespace Go.Proofs.Ytblhbhhgpfcfbaa
open Go.RowKit

def ceil (v : Int) : Int := if v = 3 then 63 else if v = 2 then 51 else if v = 1 then 17 else 0

theorem ceiling_any (v : Int) (w : World) :
    Calls Try.prog 9 #[.int .i64 v] w fun e w' => e = .returned (.int .u32 (ceil v)) ∧ w = w' := by
  by_cases h3 : v = 3
  · subst h3
    go_enter Try.func9, Try.ntmps9
    go_wp2
    go_ret
    exact ⟨rfl, rfl⟩
  · by_cases h2 : v = 2
    · subst h2
      go_enter Try.func9, Try.ntmps9
      go_wp2
      go_ret
      exact ⟨rfl, rfl⟩
    · by_cases h1 : v = 1
      · subst h1
        go_enter Try.func9, Try.ntmps9
        go_wp2
        go_ret
        exact ⟨rfl, rfl⟩
      · go_enter Try.func9, Try.ntmps9
        go_wp2
        go_ret
        exact ⟨by simp [ceil, h1, h2, h3], rfl⟩

/-- Below: old cells and marks read as before. -/
theorem bcell {W w1 : World} (hb : Below W.heap.size W w1) : (∀ b o, b < W.heap.size → w1.cell? ⟨b, o, none⟩ = W.cell? ⟨b, o, none⟩) ∧ (∀ b o, b < W.heap.size → w1.frozen? ⟨b, o, none⟩ = W.frozen? ⟨b, o, none⟩) :=
  ⟨fun b o h => hb.cell (p := ⟨b, o, none⟩) h, fun b o h => hb.frozen (p := ⟨b, o, none⟩) h⟩


def chV (am bm : Int) : Int := if 1 ≤ am ∧ 1 ≤ bm ∧ am ≤ 3 ∧ bm ≤ 3 then min am bm else 0
def chF (am bm af bf : Int) : Int := if 1 ≤ am ∧ 1 ≤ bm ∧ am ≤ 3 ∧ bm ≤ 3 then bits .and .u32 (bits .and .u32 af bf) (ceil (min am bm)) else 0
def chE (am bm : Int) : Int := if 1 ≤ am ∧ 1 ≤ bm ∧ am ≤ 3 ∧ bm ≤ 3 then 0 else 1

def ChPost (am bm af bf : Int) (w : World) (e : Ending) (w' : World) : Prop :=
  e = .returned (.tuple #[.agg #[.int .i64 (chV am bm), .int .u32 (chF am bm af bf)], .int .i64 (chE am bm)]) ∧
    ∃ n, (((w.alloc (.cells #[.int .i64 am, .int .u32 af] 24)).alloc (.cells #[.int .i64 bm, .int .u32 bf] 24)).alloc (.cells #[.int .i64 (chV am bm), .int .u32 (chF am bm af bf)] 26)).drewN n = w'

theorem ch_close {am bm af bf v f e : Int} {w : World} (h1 : chV am bm = v) (h2 : chF am bm af bf = f) (h3 : chE am bm = e) (n : Nat) :
    ChPost am bm af bf w (.returned (.tuple #[.agg #[.int .i64 v, .int .u32 f], .int .i64 e]))
      ((((w.alloc (.cells #[.int .i64 am, .int .u32 af] 24)).alloc (.cells #[.int .i64 bm, .int .u32 bf] 24)).alloc (.cells #[.int .i64 v, .int .u32 f] 26)).drewN n) := by
  subst h1 h2 h3
  exact ⟨rfl, n, rfl⟩

set_option maxHeartbeats 1000000 in
theorem choose_any (am bm : Int) (af bf : Int) (w : World) :
    Calls Try.prog 7 #[.agg #[.int .i64 am, .int .u32 af], .agg #[.int .i64 bm, .int .u32 bf]] w (ChPost am bm af bf w) := by
  by_cases ok : 1 ≤ am ∧ 1 ≤ bm ∧ am ≤ 3 ∧ bm ≤ 3
  · have HV : Hid (chV am bm = min am bm) := if_pos ok
    have HF : Hid (chF am bm af bf = bits .and .u32 (bits .and .u32 af bf) (ceil (min am bm))) := if_pos ok
    have HE : Hid (chE am bm = 0) := if_pos ok
    obtain ⟨h1, h2, h3, h4⟩ := ok
    by_cases hh : am < bm
    · go_enter Try.func7, Try.ntmps7
      go_wp2_with (go_at_call 9; refine (ceiling_any _ _).mono ?_; rintro e w' ⟨rfl, rfl⟩)
      go_region_held3 (fun w' => w'.cell? ⟨w.heap.size, 1, none⟩ = some (.int .u32 af) ∧ w'.cell? ⟨w.heap.size + 1, 1, none⟩ = some (.int .u32 bf)) (go_keep)
        (first | (go_at_call 9; refine (ceiling_any _ _).mono ?_; rintro e w' ⟨rfl, rfl⟩))
      all_goals go_wp2
      exact bodyPost_ret (v := .tuple #[.agg #[.int .i64 am, .int .u32 (bits .and .u32 (bits .and .u32 af bf) (ceil am))], .int .i64 0]) (by simp [results, Try.results7, go_sem]) rfl
        (ch_close (by rw [HV.out]; omega) (by rw [HF.out, show min am bm = am from by omega]) HE.out 1)
    · by_cases hh2 : bm < am
      · go_enter Try.func7, Try.ntmps7
        go_wp2_with (go_at_call 9; refine (ceiling_any _ _).mono ?_; rintro e w' ⟨rfl, rfl⟩)
        go_region_held3 (fun w' => w'.cell? ⟨w.heap.size, 1, none⟩ = some (.int .u32 af) ∧ w'.cell? ⟨w.heap.size + 1, 1, none⟩ = some (.int .u32 bf)) (go_keep)
          (first | (go_at_call 9; refine (ceiling_any _ _).mono ?_; rintro e w' ⟨rfl, rfl⟩))
        all_goals go_wp2
        exact bodyPost_ret (v := .tuple #[.agg #[.int .i64 bm, .int .u32 (bits .and .u32 (bits .and .u32 af bf) (ceil bm))], .int .i64 0]) (by simp [results, Try.results7, go_sem]) rfl
          (ch_close (by rw [HV.out]; omega) (by rw [HF.out, show min am bm = bm from by omega]) HE.out 1)
      · obtain rfl : am = bm := by omega
        go_enter Try.func7, Try.ntmps7
        go_wp2_with (go_at_call 9; refine (ceiling_any _ _).mono ?_; rintro e w' ⟨rfl, rfl⟩)
        go_region_held3 (fun w' => w'.cell? ⟨w.heap.size, 1, none⟩ = some (.int .u32 af) ∧ w'.cell? ⟨w.heap.size + 1, 1, none⟩ = some (.int .u32 bf)) (go_keep)
          (first | (go_at_call 9; refine (ceiling_any _ _).mono ?_; rintro e w' ⟨rfl, rfl⟩))
        all_goals go_wp2
        exact bodyPost_ret (v := .tuple #[.agg #[.int .i64 am, .int .u32 (bits .and .u32 (bits .and .u32 af bf) (ceil am))], .int .i64 0]) (by simp [results, Try.results7, go_sem]) rfl
          (ch_close (by rw [HV.out]; omega) (by rw [HF.out, show min am am = am from by omega]) HE.out 1)
  · have HV : Hid (chV am bm = 0) := if_neg ok
    have HF : Hid (chF am bm af bf = 0) := if_neg ok
    have HE : Hid (chE am bm = 1) := if_neg ok
    have hc : (am < bm ∧ am < 1) ∨ (am < bm ∧ 1 ≤ am ∧ 3 < bm) ∨ (bm < am ∧ bm < 1) ∨ (bm < am ∧ 1 ≤ bm ∧ 3 < am) ∨ (am = bm ∧ am < 1) ∨ (am = bm ∧ 1 ≤ am ∧ 3 < am) := by omega
    clear ok
    rcases hc with ⟨h1, h2⟩ | ⟨h1, h2, h3⟩ | ⟨h1, h2⟩ | ⟨h1, h2, h3⟩ | ⟨rfl, h2⟩ | ⟨rfl, h2, h3⟩
    all_goals
      go_enter Try.func7, Try.ntmps7
      go_wp2
      exact bodyPost_ret (v := .tuple #[.agg #[.int .i64 0, .int .u32 0], .int .i64 1]) (by simp [results, Try.results7, go_sem]) rfl (ch_close HV.out HF.out HE.out 0)

/-- What the fixed examples leave: new blocks. -/
def FxPost (w : World) (e : Ending) (w' : World) : Prop :=
  e = .returned (.bool true) ∧ ∃ n, ((((w.alloc (.cells #[.int .i64 3, .int .u32 63] 24)).alloc (.cells #[.int .i64 2, .int .u32 11] 24)).alloc (.cells #[.int .i64 2, .int .u32 3] 26)).alloc (.cells #[.int .i64 2, .int .u32 3] 26)).drewN n = w'

attribute [local go_sem] alloc_drewN setCell_drewN
theorem fixed_any (w : World) : Calls Try.prog 8 #[] w (FxPost w) := by
  have e1 : chV 3 2 = 2 := by decide
  have e2 : chE 3 2 = 0 := by decide
  have e3 : chF 3 2 63 11 = 3 := by decide
  have e4 : ceil 1 = 17 := by decide
  go_enter Try.func8, Try.ntmps8
  go_wp2_with (first | (go_at_call 9; refine (ceiling_any _ _).mono ?_; rintro e w' ⟨rfl, rfl⟩) | (go_at_call 7; refine (choose_any _ _ _ _ _).mono ?_; rintro e w1 ⟨rfl, nn, rfl⟩))
  go_ret
  exact ⟨rfl, _, rfl⟩
end Go.Proofs.Ytblhbhhgpfcfbaa
