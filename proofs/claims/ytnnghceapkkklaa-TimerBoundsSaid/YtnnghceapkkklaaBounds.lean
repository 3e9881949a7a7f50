/- Whatever is told, it waits from 4 to 64 ticks: the walk. -/
import Derived.Test.YtnnghceapkkklaaFixed
import Derived.Test.YtnnghceapkkklaaOps
namespace Go.Proofs.Ytnnghceapkkklaa
open Go.RowKit
attribute [local go_sem] alloc_drewN setCell_drewN


theorem wt_in (t : St) : 4 ≤ wt t ∧ wt t ≤ 64 := by
  have hp : 1 ≤ 2 ^ t.back := Nat.one_le_two_pow
  have hm : 4 ≤ (if t.any = true then max (t.s / 8 + t.v) 4 else 16) := by split <;> omega
  unfold wt
  generalize (if t.any = true then max (t.s / 8 + t.v) 4 else 16) = M at hm
  have h : M * 1 ≤ M * 2 ^ t.back := Nat.mul_le_mul_left _ hp
  omega
theorem wt_bck (t : St) : wt t ≤ wt (bck t) := by
  unfold wt bck
  simp only
  generalize (if t.any = true then max (t.s / 8 + t.v) 4 else 16) = M
  have h : M * 2 ^ t.back ≤ M * 2 ^ (if t.back < 5 then t.back + 1 else t.back) := Nat.mul_le_mul_left _ (Nat.pow_le_pow_right (by omega) (by split <;> omega))
  omega
def bcks (t : St) : Nat → St
  | 0 => t
  | k + 1 => bck (bcks t k)
theorem bcks_ok (t : St) (h : t.ok) : ∀ k, (bcks t k).ok
  | 0 => h
  | k + 1 => bck_ok _ (bcks_ok t h k)
theorem bcks_any (t : St) : ∀ k, (bcks t k).any = t.any ∧ (bcks t k).s = t.s ∧ (bcks t k).v = t.v
  | 0 => ⟨rfl, rfl, rfl⟩
  | k + 1 => bcks_any t k
theorem bcks_back (t : St) (h : t.ok) : ∀ k, k ≤ 5 → min k 5 ≤ (bcks t k).back
  | 0, _ => by simp
  | k + 1, hk => by
    have h1 := bcks_back t h k (by omega)
    have h2 := (bcks_ok t h k).2.2
    show _ ≤ (bck (bcks t k)).back
    unfold bck
    simp only
    split <;> omega
theorem bcks_five (t : St) (h : t.ok) : wt (bcks t 5) = 64 := by
  have h1 := bcks_back t h 5 (by omega)
  have h2 := (bcks_ok t h 5).2.2
  have h3 : (bcks t 5).back = 5 := by omega
  unfold wt
  rw [h3]
  have hm : 4 ≤ (if (bcks t 5).any = true then max ((bcks t 5).s / 8 + (bcks t 5).v) 4 else 16) := by split <;> omega
  omega
def BRel (w : World) (t : St) (wr : World) : Prop := t.ok ∧ G wr w.heap.size t ∧ Below w.heap.size w wr
theorem BRel.draws {w wr : World} {t : St} (h : BRel w t wr) (m : Nat) : BRel w t (wr.drewN m) := ⟨h.1, Own.draws h.2.1 m, below_drewN h.2.2 m⟩
theorem BRel.alloc {w wr : World} {t : St} (h : BRel w t wr) (o : Obj) : BRel w t (wr.alloc o) := ⟨h.1, Own.alloc h.2.1 o, h.2.2.alloc h.2.2.size o⟩
theorem wt_val (t : St) : ∃ c, Hid (wt t = c) ∧ 4 ≤ c ∧ c ≤ 64 := ⟨_, rfl, wt_in t⟩
theorem wt_up (t : St) {c : Nat} (h : Hid (wt t = c)) : ∃ d, Hid (wt (bck t) = d) ∧ c ≤ d ∧ 4 ≤ d ∧ d ≤ 64 := ⟨_, rfl, by rw [← h.out]; exact wt_bck t, wt_in _⟩
theorem BRel.next {w wr w1 : World} {t t' : St} (h : BRel w t wr) (hk : t'.ok) (g : G w1 w.heap.size t') (b : wr.grownBy w1 (some w.heap.size)) : BRel w t' w1 := ⟨hk, g, h.2.2.grown b h.2.2.size (fun k hk => by cases hk; exact Nat.le_refl _)⟩
set_option maxHeartbeats 1000000 in
theorem bounds_walk (a : Option Addr) (n c : Nat) (bs : Nat → Bool) (xs : Nat → Int) (w : World) (hl : Ops .i64 w a n bs xs) : Calls Try.prog 4 #[.slice a n c] w fun e w' => e = .returned (.bool true) ∧ Below w.heap.size w w' := by
  have start : ∀ w2, Below (w.heap.size + 1) (w.alloc (.cells #[.bool false, .int .i64 0, .int .i64 0, .int .i64 0] 43)) w2 → Hid (BRel w s0 w2) := fun w2 hb2 =>
    ⟨s0_ok, Own.below (G_new w) hb2 (by omega), ((Below.refl _ _).alloc (Nat.le_refl _) _).trans (hb2.mono (by omega))⟩
  have START := Lib.hid start
  have HL := Lib.hid hl
  have hn := hl.1
  clear start hl
  go_enter Try.func4, Try.ntmps4
  go_wp2_with fail
  refine (new_any _).mono ?_
  rintro e w' ⟨rfl, rfl⟩
  go_wp2_with fail
  refine (fixed_any _).mono ?_
  rintro e w2 ⟨rfl, hb2⟩
  simp only [World.size_alloc] at hb2
  have HB := START.out w2 hb2
  clear hb2 START
  go_wp2_with fail
  go_loopw [16] (fun i wr => ∃ (k : Nat) (t : St), k ≤ n ∧ i = .int .i64 k ∧ BRel w t wr) (fun i _ => n - (intOf i).toNat)
  case atStart => exact ⟨0, s0, by omega, rfl, HB.out⟩
  case round =>
    obtain ⟨k, t, hk, rfl, hM⟩ := hrel
    have HR := Lib.hid hM
    clear hM HB
    by_cases hkn : k < n
    · obtain ⟨b, off, rfl, hbl, hc⟩ := HL.out.2 (by omega)
      obtain ⟨hc0, hc1⟩ := hc k hkn
      rw [← HR.out.2.2.cell hbl] at hc0 hc1
      clear hc
      by_cases hbr : 2000 < k
      · have hbr' : decide (2000 < (k : Int)) = true := decide_eq_true (by omega)
        clear hbr
        go_wp2_with fail
        have HT := Lib.hid (HR.out.alloc (.cells #[.bool (bs k), .int .i64 (xs k)] 30))
        go_loopw [46] (fun i wz => ∃ (j : Nat), j ≤ 5 ∧ i = .int .i64 j ∧ BRel w (bcks t j) wz) (fun i _ => 5 - (intOf i).toNat)
        case atStart => exact ⟨0, by omega, rfl, HT.out⟩
        case round =>
          obtain ⟨j, hj, rfl, hJ⟩ := hrel
          have HJ := Lib.hid hJ
          clear hJ HT
          by_cases hj5 : j < 5
          · go_wp2_with fail
            refine (back_at HJ.out.2.1 HJ.out.1 rfl).mono ?_
            rintro e w4 ⟨rfl, g4, t4⟩
            have HN := Lib.hid (HJ.out.next (bck_ok _ HJ.out.1) g4 t4)
            clear g4 t4
            go_wp2_with fail
            go_roundw
            case rel => exact ⟨j + 1, by omega, by go_num, HN.out⟩
            case measure => simp [intOf]; omega
          · obtain rfl : j = 5 := by omega
            have H5 := Lib.hid (bcks_five t HR.out.1)
            go_wp2_with fail
            refine (wait_at HJ.out.2.1 HJ.out.1 H5.out).mono ?_
            rintro e w4 ⟨rfl, m4, rfl⟩
            go_wp2_with fail
            go_ret
            refine ⟨rfl, ?_⟩
            have h2 := HJ.out.2.2
            with_reducible exact below_drewN h2 _
      · have hbr' : (k : Int) ≤ 2000 := by omega
        have HA : ∀ o, Hid (BRel w t (wr.alloc o)) := fun o => HR.out.alloc o
        have HC := Lib.hid HA
        clear HA
        obtain ⟨c1, HW, hw1, hw2⟩ := wt_val t
        cases hb : bs k with
        | true =>
          rw [hb] at hc0
          clear hb
          obtain ⟨c2, HV, hv1, hv2, hv3⟩ := wt_up t HW
          go_wp2_with fail
          refine (wait_at (HC.out _).out.2.1 HR.out.1 HW.out).mono ?_
          rintro e w3 ⟨rfl, m3, rfl⟩
          go_wp2_with fail
          refine (back_at ((HC.out _).out.draws m3).2.1 HR.out.1 rfl).mono ?_
          rintro e w4 ⟨rfl, g4, t4⟩
          have HN := Lib.hid (((HC.out _).out.draws m3).next (bck_ok _ HR.out.1) g4 t4)
          clear g4 t4
          go_wp2_with fail
          refine (wait_at HN.out.2.1 HN.out.1 HV.out).mono ?_
          rintro e w5 ⟨rfl, m5, rfl⟩
          go_wp2_with fail
          refine (wait_at (HN.out.draws m5).2.1 HN.out.1 HV.out).mono ?_
          rintro e w6 ⟨rfl, m6, rfl⟩
          go_wp2_with fail
          refine (wait_at (HN.out.draws _).2.1 HN.out.1 HV.out).mono ?_
          rintro e w7 ⟨rfl, m7, rfl⟩
          go_wp2_with fail
          go_roundw
          case rel => exact ⟨k + 1, _, by omega, by go_num, HN.out.draws _⟩
          case measure => simp [intOf]; omega
        | false =>
          rw [hb] at hc0
          clear hb
          obtain ⟨x, hx⟩ : ∃ x, x = xs k := ⟨_, rfl⟩
          rw [← hx] at hc1
          by_cases hxr : x < 0 ∨ 10000 < x
          · have HX := Lib.hid hxr
            clear hxr hx
            go_wp2_with fail
            refine (wait_at (HC.out _).out.2.1 HR.out.1 HW.out).mono ?_
            rintro e w3 ⟨rfl, m3, rfl⟩
            go_wp2_with fail
            refine (sample_no _ t _ _ ((HC.out _).out.draws m3).2.1 HX.out).mono ?_
            rintro e w4 ⟨rfl, g4, t4⟩
            have HN := Lib.hid (((HC.out _).out.draws m3).next HR.out.1 g4 t4)
            clear g4 t4
            go_wp2_with fail
            refine (wait_at HN.out.2.1 HN.out.1 HW.out).mono ?_
            rintro e w6 ⟨rfl, m6, rfl⟩
            go_wp2_with fail
            refine (wait_at (HN.out.draws m6).2.1 HN.out.1 HW.out).mono ?_
            rintro e w7 ⟨rfl, m7, rfl⟩
            go_wp2_with fail
            go_roundw
            case rel => exact ⟨k + 1, _, by omega, by go_num, HN.out.draws _⟩
            case measure => simp [intOf]; omega
          · obtain ⟨y, rfl⟩ : ∃ y : Nat, x = y := ⟨x.toNat, by omega⟩
            have hy : y ≤ 10000 := by omega
            obtain ⟨c2, HV, hv2, hv3⟩ := wt_val (smp t y)
            clear hxr hx
            go_wp2_with fail
            refine (wait_at (HC.out _).out.2.1 HR.out.1 HW.out).mono ?_
            rintro e w3 ⟨rfl, m3, rfl⟩
            go_wp2_with fail
            refine (sample_yes _ t y _ ((HC.out _).out.draws m3).2.1 HR.out.1 hy).mono ?_
            rintro e w4 ⟨rfl, g4, t4⟩
            have HN := Lib.hid (((HC.out _).out.draws m3).next (smp_ok _ _ HR.out.1 hy) g4 t4)
            clear g4 t4
            go_wp2_with fail
            refine (wait_at HN.out.2.1 HN.out.1 HV.out).mono ?_
            rintro e w6 ⟨rfl, m6, rfl⟩
            go_wp2_with fail
            refine (wait_at (HN.out.draws m6).2.1 HN.out.1 HV.out).mono ?_
            rintro e w7 ⟨rfl, m7, rfl⟩
            go_wp2_with fail
            go_roundw
            case rel => exact ⟨k + 1, _, by omega, by go_num, HN.out.draws _⟩
            case measure => simp [intOf]; omega
    · obtain rfl : k = n := by omega
      go_wp2_with fail
      have HT := Lib.hid (HR.out)
      go_loopw [46] (fun i wz => ∃ (j : Nat), j ≤ 5 ∧ i = .int .i64 j ∧ BRel w (bcks t j) wz) (fun i _ => 5 - (intOf i).toNat)
      case atStart => exact ⟨0, by omega, rfl, HT.out⟩
      case round =>
        obtain ⟨j, hj, rfl, hJ⟩ := hrel
        have HJ := Lib.hid hJ
        clear hJ HT
        by_cases hj5 : j < 5
        · go_wp2_with fail
          refine (back_at HJ.out.2.1 HJ.out.1 rfl).mono ?_
          rintro e w4 ⟨rfl, g4, t4⟩
          have HN := Lib.hid (HJ.out.next (bck_ok _ HJ.out.1) g4 t4)
          clear g4 t4
          go_wp2_with fail
          go_roundw
          case rel => exact ⟨j + 1, by omega, by go_num, HN.out⟩
          case measure => simp [intOf]; omega
        · obtain rfl : j = 5 := by omega
          have H5 := Lib.hid (bcks_five t HR.out.1)
          go_wp2_with fail
          refine (wait_at HJ.out.2.1 HJ.out.1 H5.out).mono ?_
          rintro e w4 ⟨rfl, m4, rfl⟩
          go_wp2_with fail
          go_ret
          refine ⟨rfl, ?_⟩
          have h2 := HJ.out.2.2
          with_reducible exact below_drewN h2 _
end Go.Proofs.Ytnnghceapkkklaa
