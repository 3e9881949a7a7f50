/- How many columns a rune takes, as the document says. -/
import Derived.Test.YtlhcehealjdbdaaDoorWidth
import Derived.Deep.DeepCutAuto
namespace Go.Proofs.YtlhcehealjdbdaaDoor
open Go.RowKit
attribute [local go_sem] alloc_drewN setCell_drewN


def mayR (r : Int) : Bool := inR r 0 55295 || inR r 57344 1114111
theorem ref_pre (r : Int) : (!mayR r || inR r 0 31 || inR r 127 159) = pre r := by
  unfold mayR pre inR
  rw [Bool.eq_iff_iff]
  simp only [Bool.or_eq_true, Bool.not_eq_true', Bool.or_eq_false_iff, Bool.and_eq_true, Bool.and_eq_false_iff, decide_eq_true_eq, decide_eq_false_iff_not]
  omega
def zeroR (r : Int) : Bool := !mayR r || inR r 0 31 || inR r 127 159 || inR r 768 879 || inR r 8203 8207 || inR r 65024 65039
def twoR (r : Int) : Bool := inR r 4352 4447 || inR r 11904 12350 || inR r 12353 42191 || inR r 44032 55203 || inR r 63744 64255 || inR r 65072 65135 || inR r 65280 65376 || inR r 65504 65510 || inR r 127744 128591 || inR r 131072 262141
theorem zeroR_eq (r : Int) : zeroR r = (pre r || anyIn tabN r) := by
  rw [← ref_pre]
  unfold zeroR anyIn tabN
  simp [Bool.or_assoc]
theorem twoR_eq (r : Int) : twoR r = anyIn tabW r := by
  unfold twoR anyIn tabW
  simp [Bool.or_assoc]
theorem width_ref0 {r : Int} (h : zeroR r = true) : width r = 0 := by unfold width; rw [← zeroR_eq, h]; rfl
theorem width_ref2 {r : Int} (h : zeroR r = false) (k : twoR r = true) : width r = 2 := by unfold width; rw [← zeroR_eq, h, ← twoR_eq, k]; rfl
theorem width_ref1 {r : Int} (h : zeroR r = false) (k : twoR r = false) : width r = 1 := by unfold width; rw [← zeroR_eq, h, ← twoR_eq, k]; rfl
theorem in_any (r a b : Int) (w : World) : Calls Tryd.prog 69 #[.int .i32 r, .int .i32 a, .int .i32 b] w fun e w' => e = .returned (.bool (inR r a b)) ∧ w = w' := by
  cases h1 : decide (a ≤ r) with
  | true =>
    go_enter Tryd.func69, Tryd.ntmps69
    go_wp2_with fail
    go_ret
    exact ⟨by unfold inR; rw [h1]; rfl, rfl⟩
  | false =>
    go_enter Tryd.func69, Tryd.ntmps69
    go_wp2_with fail
    go_ret
    exact ⟨by unfold inR; rw [h1]; rfl, rfl⟩
theorem rmay_any (r : Int) (w : World) : Calls Tryd.prog 68 #[.int .i32 r] w fun e w' => e = .returned (.bool (mayR r)) ∧ w = w' := by
  cases h1 : decide (0 ≤ r) with
  | true =>
    cases h2 : decide (r ≤ 55295) with
    | true =>
      go_enter Tryd.func68, Tryd.ntmps68
      go_wp2_with fail
      go_ret
      exact ⟨by unfold mayR inR; simp [h1, h2], rfl⟩
    | false =>
      cases h3 : decide (57344 ≤ r) with
      | true =>
        go_enter Tryd.func68, Tryd.ntmps68
        go_wp2_with fail
        go_ret
        exact ⟨by unfold mayR inR; simp [h2, h3], rfl⟩
      | false =>
        go_enter Tryd.func68, Tryd.ntmps68
        go_wp2_with fail
        go_ret
        exact ⟨by unfold mayR inR; simp [h2, h3], rfl⟩
  | false =>
    have h3 : decide (57344 ≤ r) = false := decide_eq_false (by have := of_decide_eq_false h1; omega)
    go_enter Tryd.func68, Tryd.ntmps68
    go_wp2_with fail
    go_ret
    exact ⟨by unfold mayR inR; simp [h1, h3], rfl⟩
set_option maxRecDepth 10000 in
set_option maxHeartbeats 2000000 in
theorem ref_width_any (r : Int) (w : World) : Calls Tryd.prog 47 #[.int .i32 r] w fun e w' => e = .returned (.int .i64 (width r)) ∧ w = w' := by
  go_enter Tryd.func47, Tryd.ntmps47
  go_upto_region 1 with fail
  go_cut [25] (fun b wc => b = .bool (zeroR r) ∧ w = wc)
  case first =>
    cases h0 : mayR r with
    | false =>
      go_wp2_with (first
        | (go_at_call 69; refine (in_any _ _ _ _).mono ?_; rintro e w' ⟨rfl, rfl⟩)
        | (go_at_call 68; refine (rmay_any _ _).mono ?_; rintro e w' ⟨rfl, rfl⟩)
        | go_in)
      go_meet
      exact ⟨by unfold zeroR; simp [*], rfl⟩
    | true =>
      cases h1 : inR r 0 31 with
      | true =>
        go_wp2_with (first
          | (go_at_call 69; refine (in_any _ _ _ _).mono ?_; rintro e w' ⟨rfl, rfl⟩)
          | (go_at_call 68; refine (rmay_any _ _).mono ?_; rintro e w' ⟨rfl, rfl⟩)
          | go_in)
        go_meet
        exact ⟨by unfold zeroR; simp [*], rfl⟩
      | false =>
        cases h2 : inR r 127 159 with
        | true =>
          go_wp2_with (first
            | (go_at_call 69; refine (in_any _ _ _ _).mono ?_; rintro e w' ⟨rfl, rfl⟩)
            | (go_at_call 68; refine (rmay_any _ _).mono ?_; rintro e w' ⟨rfl, rfl⟩)
            | go_in)
          go_meet
          exact ⟨by unfold zeroR; simp [*], rfl⟩
        | false =>
          cases h3 : inR r 768 879 with
          | true =>
            go_wp2_with (first
              | (go_at_call 69; refine (in_any _ _ _ _).mono ?_; rintro e w' ⟨rfl, rfl⟩)
              | (go_at_call 68; refine (rmay_any _ _).mono ?_; rintro e w' ⟨rfl, rfl⟩)
              | go_in)
            go_meet
            exact ⟨by unfold zeroR; simp [*], rfl⟩
          | false =>
            cases h4 : inR r 8203 8207 with
            | true =>
              go_wp2_with (first
                | (go_at_call 69; refine (in_any _ _ _ _).mono ?_; rintro e w' ⟨rfl, rfl⟩)
                | (go_at_call 68; refine (rmay_any _ _).mono ?_; rintro e w' ⟨rfl, rfl⟩)
                | go_in)
              go_meet
              exact ⟨by unfold zeroR; simp [*], rfl⟩
            | false =>
              cases h5 : inR r 65024 65039 with
              | true =>
                go_wp2_with (first
                  | (go_at_call 69; refine (in_any _ _ _ _).mono ?_; rintro e w' ⟨rfl, rfl⟩)
                  | (go_at_call 68; refine (rmay_any _ _).mono ?_; rintro e w' ⟨rfl, rfl⟩)
                  | go_in)
                go_meet
                exact ⟨by unfold zeroR; simp [*], rfl⟩
              | false =>
                go_wp2_with (first
                  | (go_at_call 69; refine (in_any _ _ _ _).mono ?_; rintro e w' ⟨rfl, rfl⟩)
                  | (go_at_call 68; refine (rmay_any _ _).mono ?_; rintro e w' ⟨rfl, rfl⟩)
                  | go_in)
                go_meet
                exact ⟨by unfold zeroR; simp [*], rfl⟩
  case rest =>
    obtain ⟨rfl, rfl⟩ := hcut
    cases hz : zeroR r with
    | true =>
      have HZ := Lib.hid (width_ref0 hz)
      clear hz
      go_wp2_with fail
      go_ret
      exact ⟨by rw [HZ.out]; rfl, rfl⟩
    | false =>
      go_upto_region 3 with fail
      go_cut [63] (fun b wc => b = .bool (twoR r) ∧ w = wc)
      case first =>
        cases h0 : inR r 4352 4447 with
        | true =>
          go_wp2_with (first
            | (go_at_call 69; refine (in_any _ _ _ _).mono ?_; rintro e w' ⟨rfl, rfl⟩)
            | (go_at_call 68; refine (rmay_any _ _).mono ?_; rintro e w' ⟨rfl, rfl⟩)
            | go_in)
          go_meet
          exact ⟨by unfold twoR; simp [*], rfl⟩
        | false =>
          cases h1 : inR r 11904 12350 with
          | true =>
            go_wp2_with (first
              | (go_at_call 69; refine (in_any _ _ _ _).mono ?_; rintro e w' ⟨rfl, rfl⟩)
              | (go_at_call 68; refine (rmay_any _ _).mono ?_; rintro e w' ⟨rfl, rfl⟩)
              | go_in)
            go_meet
            exact ⟨by unfold twoR; simp [*], rfl⟩
          | false =>
            cases h2 : inR r 12353 42191 with
            | true =>
              go_wp2_with (first
                | (go_at_call 69; refine (in_any _ _ _ _).mono ?_; rintro e w' ⟨rfl, rfl⟩)
                | (go_at_call 68; refine (rmay_any _ _).mono ?_; rintro e w' ⟨rfl, rfl⟩)
                | go_in)
              go_meet
              exact ⟨by unfold twoR; simp [*], rfl⟩
            | false =>
              cases h3 : inR r 44032 55203 with
              | true =>
                go_wp2_with (first
                  | (go_at_call 69; refine (in_any _ _ _ _).mono ?_; rintro e w' ⟨rfl, rfl⟩)
                  | (go_at_call 68; refine (rmay_any _ _).mono ?_; rintro e w' ⟨rfl, rfl⟩)
                  | go_in)
                go_meet
                exact ⟨by unfold twoR; simp [*], rfl⟩
              | false =>
                cases h4 : inR r 63744 64255 with
                | true =>
                  go_wp2_with (first
                    | (go_at_call 69; refine (in_any _ _ _ _).mono ?_; rintro e w' ⟨rfl, rfl⟩)
                    | (go_at_call 68; refine (rmay_any _ _).mono ?_; rintro e w' ⟨rfl, rfl⟩)
                    | go_in)
                  go_meet
                  exact ⟨by unfold twoR; simp [*], rfl⟩
                | false =>
                  cases h5 : inR r 65072 65135 with
                  | true =>
                    go_wp2_with (first
                      | (go_at_call 69; refine (in_any _ _ _ _).mono ?_; rintro e w' ⟨rfl, rfl⟩)
                      | (go_at_call 68; refine (rmay_any _ _).mono ?_; rintro e w' ⟨rfl, rfl⟩)
                      | go_in)
                    go_meet
                    exact ⟨by unfold twoR; simp [*], rfl⟩
                  | false =>
                    cases h6 : inR r 65280 65376 with
                    | true =>
                      go_wp2_with (first
                        | (go_at_call 69; refine (in_any _ _ _ _).mono ?_; rintro e w' ⟨rfl, rfl⟩)
                        | (go_at_call 68; refine (rmay_any _ _).mono ?_; rintro e w' ⟨rfl, rfl⟩)
                        | go_in)
                      go_meet
                      exact ⟨by unfold twoR; simp [*], rfl⟩
                    | false =>
                      cases h7 : inR r 65504 65510 with
                      | true =>
                        go_wp2_with (first
                          | (go_at_call 69; refine (in_any _ _ _ _).mono ?_; rintro e w' ⟨rfl, rfl⟩)
                          | (go_at_call 68; refine (rmay_any _ _).mono ?_; rintro e w' ⟨rfl, rfl⟩)
                          | go_in)
                        go_meet
                        exact ⟨by unfold twoR; simp [*], rfl⟩
                      | false =>
                        cases h8 : inR r 127744 128591 with
                        | true =>
                          go_wp2_with (first
                            | (go_at_call 69; refine (in_any _ _ _ _).mono ?_; rintro e w' ⟨rfl, rfl⟩)
                            | (go_at_call 68; refine (rmay_any _ _).mono ?_; rintro e w' ⟨rfl, rfl⟩)
                            | go_in)
                          go_meet
                          exact ⟨by unfold twoR; simp [*], rfl⟩
                        | false =>
                          cases h9 : inR r 131072 262141 with
                          | true =>
                            go_wp2_with (first
                              | (go_at_call 69; refine (in_any _ _ _ _).mono ?_; rintro e w' ⟨rfl, rfl⟩)
                              | (go_at_call 68; refine (rmay_any _ _).mono ?_; rintro e w' ⟨rfl, rfl⟩)
                              | go_in)
                            go_meet
                            exact ⟨by unfold twoR; simp [*], rfl⟩
                          | false =>
                            go_wp2_with (first
                              | (go_at_call 69; refine (in_any _ _ _ _).mono ?_; rintro e w' ⟨rfl, rfl⟩)
                              | (go_at_call 68; refine (rmay_any _ _).mono ?_; rintro e w' ⟨rfl, rfl⟩)
                              | go_in)
                            go_meet
                            exact ⟨by unfold twoR; simp [*], rfl⟩
      case rest =>
        obtain ⟨rfl, rfl⟩ := hcut
        cases ht : twoR r with
        | true =>
          have HZ := Lib.hid (width_ref2 hz ht)
          clear hz ht
          go_wp2_with fail
          go_ret
          exact ⟨by rw [HZ.out]; rfl, rfl⟩
        | false =>
          have HZ := Lib.hid (width_ref1 hz ht)
          clear hz ht
          go_wp2_with fail
          go_ret
          exact ⟨by rw [HZ.out]; rfl, rfl⟩
end Go.Proofs.YtlhcehealjdbdaaDoor
