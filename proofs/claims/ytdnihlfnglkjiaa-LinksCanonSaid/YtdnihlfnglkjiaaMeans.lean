/- Behind Canon each cell leads to where it led: the walk. -/
import Derived.Test.YtdnihlfnglkjiaaOnce
namespace Go.Proofs.Ytdnihlfnglkjiaa
open Go.RowKit
attribute [local go_sem] alloc_drewN setCell_drewN


set_option maxRecDepth 10000 in
set_option maxHeartbeats 2000000 in
theorem means_walk (a b : Option Addr) (n c k d : Nat) (cs : List Glyph) (xs : List ByteArray) (w : World) (hc : Cells w a n cs) (hl : Strs w b k xs) (hx : ∀ x ∈ xs, x.size ≤ 4611686018427387904) (hf : Fit cs) : Calls Try.prog 6 #[.slice a n c, .slice b k d] w fun e w' => e = .returned (.bool true) ∧ Below w.heap.size w w' := by
  obtain rfl := hc.1
  obtain rfl := hl.1
  have hcn := hc.2.1
  have HC := Lib.hid hc
  have HL := Lib.hid hl
  have HX := Lib.hid hx
  have HF := Lib.hid hf
  clear hc hl hx hf
  go_enter Try.func6, Try.ntmps6
  go_wp2_with fail
  refine (great_any a b cs.length c xs.length d xs _ hcn HL.out HX.out).mono ?_
  rintro e w1 ⟨g, rfl, ⟨m1, rfl⟩, hg⟩
  have HG := Lib.hid hg
  clear hg
  cases g with
  | true =>
    go_wp2_with fail
    refine (fixed_any _).mono ?_
    rintro e w2 ⟨rfl, b2⟩
    have B2 : Hid (Below w.heap.size w w2) := (below_drewN (Below.refl _ _) m1).trans b2
    clear b2
    go_wp2_with fail
    go_ret
    exact ⟨rfl, B2.out⟩
  | false =>
    obtain ⟨hn3, _, _⟩ := HG.out rfl
    have B1 : Hid (Below w.heap.size w (w.drewN m1)) := below_drewN (Below.refl _ _) m1
    go_wp2_with fail
    refine (canon_any a b cs.length c xs.length d cs xs _ (HC.out.below B1.out) (HL.out.below B1.out) HX.out HF.out hn3).mono ?_
    rintro e w2 ⟨v1, v2, rfl, r1, r2, b2⟩
    have B2 : Hid (Below w.heap.size w w2) := B1.out.trans b2
    obtain ⟨C, hC⟩ : ∃ C, canon xs cs = C := ⟨_, rfl⟩
    obtain ⟨L, hL⟩ : ∃ L, tx xs cs cs.length = L := ⟨_, rfl⟩
    have hFC := fit_canon (xs := xs) hn3
    have hTS := tx_sizes cs HX.out
    have hCl := canon_len xs cs
    have hTL := tx_len xs cs cs.length
    have hRT : xs.length ≤ 16 → rightB L C = true := fun h => by rw [← hC, ← hL]; exact right_yes (canon_right xs cs h)
    have hLL := srow_cap (c := 0) (n := 0) (a := none) (w := w2) (base := 0) (zs := []) (SRow.nil _ _)
    rw [hC] at r1 hFC hCl
    rw [hL] at r2 hTS hTL
    obtain ⟨ca, cc, rfl, c1⟩ := r1.cells
    obtain ⟨la, lc, rfl, l1⟩ := r2.strs
    have hlc := srow_cap r2
    have C1 := Lib.hid c1
    have L1 := Lib.hid l1
    have HFC := Lib.hid hFC
    have HTS := Lib.hid hTS
    have HRT := Lib.hid hRT
    have HCE := Lib.hid hC
    have HLE := Lib.hid hL
    have HCL := Lib.hid hCl
    have hb0 : ((C.length : Int) != (cs.length : Int)) = false := by rw [hCl]; simp
    have hL3 : L.length ≤ 3000 := by omega
    clear r1 r2 c1 l1 b2 hFC hTS hC hL hCl hTL hRT hLL
    go_wp2_with fail
    refine (fixed_any _).mono ?_
    rintro e w3 ⟨rfl, b3⟩
    have B3 : Hid (Below w.heap.size w w3) := B2.out.trans (b3.mono B2.out.size)
    have C3 := Lib.hid (C1.out.below b3)
    have L3 := Lib.hid (L1.out.below b3)
    clear b3
    have HEND : Hid (∀ wz, Below w3.heap.size w3 wz → Below w.heap.size w wz) := fun wz h => B3.out.trans (h.mono B3.out.size)
    by_cases h16 : xs.length ≤ 16
    · have hd1 : decide ((xs.length : Int) ≤ 16) = true := decide_eq_true (by omega)
      have HRB := Lib.hid (HRT.out h16)
      clear h16
      go_wp2_with fail
      refine (right_at C3.out L3.out HTS.out HFC.out hlc HRB.out).mono ?_
      rintro e w4 ⟨rfl, b4⟩
      have HB4 : Hid (Below w3.heap.size w3 w4) := b4
      clear b4
      go_wp2_with fail
      have HCB : Hid (Cells w4 a cs.length cs) := HC.out.below (HEND.out _ HB4.out)
      have HLB : Hid (Strs w4 b xs.length xs) := HL.out.below (HEND.out _ HB4.out)
      have C4 : Hid (Cells w4 ca C.length C) := C3.out.below HB4.out
      have L4 : Hid (Strs w4 la L.length L) := L3.out.below HB4.out
      go_loopw [42] (fun v wr => ∃ (i m : Nat), i ≤ cs.length ∧ v = .int .i64 i ∧ wr = World.drewN w4 m) (fun v _ => cs.length - (intOf v).toNat)
      case atStart => exact ⟨0, 0, by omega, rfl, rfl⟩
      case round =>
        obtain ⟨i, m, hi, rfl, rfl⟩ := hrel
        by_cases hin : i < cs.length
        · obtain ⟨b1, o1, rfl, hb1, hc1⟩ := HCB.out.2.2 (by omega)
          obtain ⟨b2, o2, rfl, hb2, hc2⟩ := C4.out.2.2 (by have := HCL.out; omega)
          have e1 := (hc1 i hin).2.2.2.2.2
          have e2 := (hc2 i (by have := HCL.out; omega)).2.2.2.2.2
          obtain ⟨n, hn, hn6⟩ := HF.out.at_ hin
          have hiC : i < C.length := by have := HCL.out; omega
          obtain ⟨s, hs⟩ : ∃ s, leads xs n = s := ⟨_, rfl⟩
          have hnum : (C.getD i g0).l = number L s := by rw [← HCE.out, canon_at xs hin, HLE.out]; unfold renum; rw [hn, hs]
          rw [hn] at e1
          rw [hnum] at e2
          have HS := Lib.hid hs
          have HMB : Hid (Below (w4).heap.size w4 (World.drewN w4 m)) := below_drewN (Below.refl _ _) m
          by_cases h0 : s = ByteArray.empty
          · subst h0
            have hz : number L ByteArray.empty = 0 := if_pos rfl
            rw [hz] at e2
            clear hc1 hc2 hn hs hnum hz
            go_wp2_with fail
            refine (leads_at (HLB.out.below HMB.out) HX.out hn6 HS.out).mono ?_
            rintro e w5 ⟨rfl, m5, rfl⟩
            go_wp2_with fail
            go_roundw
            case rel => exact ⟨i + 1, m + m5, by omega, by go_num, rfl⟩
            case measure => simp [intOf]; omega
          · have h1 : 0 ≤ place L s := by rw [← HLE.out]; exact tx_place hin (by rw [hn, hs]) h0
            obtain ⟨p, hp⟩ : ∃ p : Nat, place L s = p := ⟨(place L s).toNat, by omega⟩
            have hpl := (place_le L s).2
            have hg := place_get h1
            rw [hp, Int.toNat_natCast] at hg
            have hz : number L s = p + 1 := by unfold number; rw [if_neg h0, hp]
            rw [hz] at e2
            have hpL : p < L.length := by omega
            obtain ⟨b3, o3, rfl, hb3, hc3⟩ := L4.out.2.2 (by omega)
            have e3 := hc3 p hpL
            rw [hg] at e3
            have hd2 : decide ((L.length : Int) < (p : Int) + 1) = false := decide_eq_false (by omega)
            have hd3 : decide (0 < (p : Int) + 1) = true := decide_eq_true (by omega)
            clear hc1 hc2 hc3 hn hs hnum hz h0 h1 hp hpl hg
            go_wp2_with fail
            refine (leads_at (HLB.out.below HMB.out) HX.out hn6 HS.out).mono ?_
            rintro e w5 ⟨rfl, m5, rfl⟩
            go_wp2_with fail
            go_roundw
            case rel => exact ⟨i + 1, m + m5, by omega, by go_num, rfl⟩
            case measure => simp [intOf]; omega
        · obtain rfl : i = cs.length := by omega
          have HE := Lib.hid (HEND.out _ (below_drewN HB4.out m))
          go_wp2_with fail
          go_ret
          exact ⟨rfl, HE.out⟩
    · have hd1 : decide ((xs.length : Int) ≤ 16) = false := decide_eq_false (by omega)
      have HB4 : Hid (Below w3.heap.size w3 w3) := Below.refl _ _
      clear h16
      go_wp2_with fail
      have HCB : Hid (Cells w3 a cs.length cs) := HC.out.below (HEND.out _ HB4.out)
      have HLB : Hid (Strs w3 b xs.length xs) := HL.out.below (HEND.out _ HB4.out)
      have C4 : Hid (Cells w3 ca C.length C) := C3.out.below HB4.out
      have L4 : Hid (Strs w3 la L.length L) := L3.out.below HB4.out
      go_loopw [42] (fun v wr => ∃ (i m : Nat), i ≤ cs.length ∧ v = .int .i64 i ∧ wr = World.drewN w3 m) (fun v _ => cs.length - (intOf v).toNat)
      case atStart => exact ⟨0, 0, by omega, rfl, rfl⟩
      case round =>
        obtain ⟨i, m, hi, rfl, rfl⟩ := hrel
        by_cases hin : i < cs.length
        · obtain ⟨b1, o1, rfl, hb1, hc1⟩ := HCB.out.2.2 (by omega)
          obtain ⟨b2, o2, rfl, hb2, hc2⟩ := C4.out.2.2 (by have := HCL.out; omega)
          have e1 := (hc1 i hin).2.2.2.2.2
          have e2 := (hc2 i (by have := HCL.out; omega)).2.2.2.2.2
          obtain ⟨n, hn, hn6⟩ := HF.out.at_ hin
          have hiC : i < C.length := by have := HCL.out; omega
          obtain ⟨s, hs⟩ : ∃ s, leads xs n = s := ⟨_, rfl⟩
          have hnum : (C.getD i g0).l = number L s := by rw [← HCE.out, canon_at xs hin, HLE.out]; unfold renum; rw [hn, hs]
          rw [hn] at e1
          rw [hnum] at e2
          have HS := Lib.hid hs
          have HMB : Hid (Below (w3).heap.size w3 (World.drewN w3 m)) := below_drewN (Below.refl _ _) m
          by_cases h0 : s = ByteArray.empty
          · subst h0
            have hz : number L ByteArray.empty = 0 := if_pos rfl
            rw [hz] at e2
            clear hc1 hc2 hn hs hnum hz
            go_wp2_with fail
            refine (leads_at (HLB.out.below HMB.out) HX.out hn6 HS.out).mono ?_
            rintro e w5 ⟨rfl, m5, rfl⟩
            go_wp2_with fail
            go_roundw
            case rel => exact ⟨i + 1, m + m5, by omega, by go_num, rfl⟩
            case measure => simp [intOf]; omega
          · have h1 : 0 ≤ place L s := by rw [← HLE.out]; exact tx_place hin (by rw [hn, hs]) h0
            obtain ⟨p, hp⟩ : ∃ p : Nat, place L s = p := ⟨(place L s).toNat, by omega⟩
            have hpl := (place_le L s).2
            have hg := place_get h1
            rw [hp, Int.toNat_natCast] at hg
            have hz : number L s = p + 1 := by unfold number; rw [if_neg h0, hp]
            rw [hz] at e2
            have hpL : p < L.length := by omega
            obtain ⟨b3, o3, rfl, hb3, hc3⟩ := L4.out.2.2 (by omega)
            have e3 := hc3 p hpL
            rw [hg] at e3
            have hd2 : decide ((L.length : Int) < (p : Int) + 1) = false := decide_eq_false (by omega)
            have hd3 : decide (0 < (p : Int) + 1) = true := decide_eq_true (by omega)
            clear hc1 hc2 hc3 hn hs hnum hz h0 h1 hp hpl hg
            go_wp2_with fail
            refine (leads_at (HLB.out.below HMB.out) HX.out hn6 HS.out).mono ?_
            rintro e w5 ⟨rfl, m5, rfl⟩
            go_wp2_with fail
            go_roundw
            case rel => exact ⟨i + 1, m + m5, by omega, by go_num, rfl⟩
            case measure => simp [intOf]; omega
        · obtain rfl : i = cs.length := by omega
          have HE := Lib.hid (HEND.out _ (below_drewN HB4.out m))
          go_wp2_with fail
          go_ret
          exact ⟨rfl, HE.out⟩
end Go.Proofs.Ytdnihlfnglkjiaa
