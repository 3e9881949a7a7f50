/- Canon of what Canon answered is the same, and just what stands in order stays: the walk. -/
import Derived.Test.YtdnihlfnglkjiaaRefRight
namespace Go.Proofs.Ytdnihlfnglkjiaa
open Go.RowKit
attribute [local go_sem] alloc_drewN setCell_drewN


theorem gsame_at {a b : Option Addr} {n c k d : Nat} {xs ys : List Glyph} {w : World} (hl : Cells w a n xs) (hk : Cells w b k ys) {t : Bool} (ht : decide (xs = ys) = t) : Calls Try.prog 21 #[.slice a n c, .slice b k d] w (GBPost t w) := by
  subst ht
  exact gsame_any a b n c k d xs ys w hl hk
theorem right_at {a b : Option Addr} {n c k d : Nat} {cs : List Glyph} {xs : List ByteArray} {w : World} (hc : Cells w a n cs) (hl : Strs w b k xs) (hx : ∀ x ∈ xs, x.size ≤ 4611686018427387904) (hf : Fit cs) (hkd : k ≤ d) {t : Bool} (ht : rightB xs cs = t) : Calls Try.prog 22 #[.slice a n c, .slice b k d] w (WPost t w) := by
  subst ht
  exact right_any a b n c k d cs xs w hc hl hx hf hkd
theorem fit_canon {xs : List ByteArray} {cs : List Glyph} (hn : cs.length ≤ 3000) : Fit (canon xs cs) := by
  intro c hc
  obtain ⟨j, hj, rfl⟩ := List.mem_iff_getElem.1 hc
  have h1 := canon_at xs (k := j) (by rwa [canon_len] at hj)
  rw [List.getD_eq_getElem?_getD, List.getElem?_eq_getElem hj] at h1
  simp only [Option.getD_some] at h1
  rw [h1]
  have h2 := number_le (tx xs cs cs.length) (leads xs (cs.getD j g0).l)
  have h3 := tx_len xs cs cs.length
  exact ⟨(number (tx xs cs cs.length) (leads xs (cs.getD j g0).l)).toNat, by show number _ _ = _; omega, by omega⟩
theorem tx_sizes {xs : List ByteArray} (cs : List Glyph) (h : ∀ x ∈ xs, x.size ≤ 4611686018427387904) : ∀ x ∈ tx xs cs cs.length, x.size ≤ 4611686018427387904 := fun x hx => h x (tx_all xs cs cs.length x hx).2
theorem right_stays (xs : List ByteArray) (cs : List Glyph) : rightB xs cs = (decide (xs.length ≤ 16) && (decide (canon xs cs = cs) && decide (tx xs cs cs.length = xs))) := by
  rw [Bool.eq_iff_iff, right_iff]
  simp only [Bool.and_eq_true, decide_eq_true_iff]
  exact Iff.rfl
set_option maxRecDepth 10000 in
set_option maxHeartbeats 2000000 in
theorem once_walk (a b : Option Addr) (n c k d : Nat) (cs : List Glyph) (xs : List ByteArray) (w : World) (hc : Cells w a n cs) (hl : Strs w b k xs) (hx : ∀ x ∈ xs, x.size ≤ 4611686018427387904) (hf : Fit cs) (hkd : k ≤ d) : Calls Try.prog 7 #[.slice a n c, .slice b k d] w fun e w' => e = .returned (.bool true) ∧ Below w.heap.size w w' := by
  obtain rfl := hc.1
  obtain rfl := hl.1
  have hcn := hc.2.1
  have HC := Lib.hid hc
  have HL := Lib.hid hl
  have HX := Lib.hid hx
  have HF := Lib.hid hf
  clear hc hl hx hf
  go_enter Try.func7, Try.ntmps7
  go_wp2_with fail
  refine (great_any a b cs.length c xs.length d xs _ hcn HL.out HX.out).mono ?_
  rintro e w1 ⟨g, rfl, ⟨m1, rfl⟩, hg⟩
  have HG := Lib.hid hg
  clear hg
  cases g with
  | true =>
    go_wp2_with fail
    refine (fixed_any _).mono ?_
    rintro e w2 ⟨rfl, b2⟩
    have B2 : Hid (Below w.heap.size w w2) := (below_drewN (Below.refl _ _) m1).trans b2
    clear b2
    go_wp2_with fail
    go_ret
    exact ⟨rfl, B2.out⟩
  | false =>
    obtain ⟨hn3, _, _⟩ := HG.out rfl
    have B1 : Hid (Below w.heap.size w (w.drewN m1)) := below_drewN (Below.refl _ _) m1
    go_wp2_with fail
    refine (canon_any a b cs.length c xs.length d cs xs _ (HC.out.below B1.out) (HL.out.below B1.out) HX.out HF.out hn3).mono ?_
    rintro e w2 ⟨v1, v2, rfl, r1, r2, b2⟩
    have B2 : Hid (Below w.heap.size w w2) := B1.out.trans b2
    obtain ⟨C, hC⟩ : ∃ C, canon xs cs = C := ⟨_, rfl⟩
    obtain ⟨L, hL⟩ : ∃ L, tx xs cs cs.length = L := ⟨_, rfl⟩
    have hO := canon_once xs cs
    have hFC := fit_canon (xs := xs) hn3
    have hTS := tx_sizes cs HX.out
    have hST := right_stays xs cs
    have hCl := canon_len xs cs
    rw [hC, hL] at hO hST
    rw [hC] at r1 hFC hCl
    rw [hL] at r2 hTS
    obtain ⟨ca, cc, rfl, c1⟩ := r1.cells
    obtain ⟨la, lc, rfl, l1⟩ := r2.strs
    have R1 := Lib.hid r1
    have R2 := Lib.hid r2
    have C1 := Lib.hid c1
    have L1 := Lib.hid l1
    have HO := Lib.hid hO
    have HFC := Lib.hid hFC
    have HTS := Lib.hid hTS
    have HST := Lib.hid hST
    have HCL := Lib.hid hCl
    have hn4 : C.length ≤ 3000 := by omega
    clear r1 r2 c1 l1 b2 hO hFC hTS hST hC hL hCl
    go_wp2_with fail
    refine (canon_any ca la C.length cc L.length lc C L _ C1.out L1.out HTS.out HFC.out hn4).mono ?_
    rintro e w3 ⟨v3, v4, rfl, r3, r4, b3⟩
    rw [HO.out.2] at r3
    rw [HO.out.1] at r4
    obtain ⟨da, dc, rfl, d3⟩ := r3.cells
    obtain ⟨ma, mc, rfl, m3⟩ := r4.strs
    have B3 : Hid (Below w.heap.size w w3) := B2.out.trans (b3.mono B2.out.size)
    have C3 := Lib.hid (C1.out.below b3)
    have L3 := Lib.hid (L1.out.below b3)
    have D3 := Lib.hid d3
    have M3 := Lib.hid m3
    clear r3 r4 b3 d3 m3
    by_cases h16 : xs.length ≤ 16
    · have hd1 : decide ((xs.length : Int) ≤ 16) = true := decide_eq_true (by omega)
      rw [decide_eq_true h16, Bool.true_and] at HST
      clear h16
      go_wp2_with fail
      cases hcc : decide (C = cs) with
      | false =>
        have HRB : Hid (rightB xs cs = false) := by have := HST.out; rw [hcc] at this; exact this
        refine (gsame_at C3.out (HC.out.below B3.out) hcc).mono ?_
        rintro e w4 ⟨rfl, q4, hw4⟩
        have B4 : Hid (Below w.heap.size w w4) := by rw [← hw4]; exact below_drewN B3.out q4
        have C4 : Hid (Cells w4 ca C.length C) := by rw [← hw4]; exact C3.out
        have D4 : Hid (Cells w4 da C.length C) := by rw [← hw4]; exact D3.out
        have L4 : Hid (Strs w4 la L.length L) := by rw [← hw4]; exact L3.out
        have M4 : Hid (Strs w4 ma L.length L) := by rw [← hw4]; exact M3.out
        clear hw4 hcc
        go_wp2_with fail
        refine (fixed_any _).mono ?_
        rintro e wa ⟨rfl, ba⟩
        have BA : Hid (Below w.heap.size w wa) := B4.out.trans (ba.mono B4.out.size)
        have CA := Lib.hid (C4.out.below ba)
        have DA := Lib.hid (D4.out.below ba)
        have LA := Lib.hid (L4.out.below ba)
        have MA := Lib.hid (M4.out.below ba)
        clear ba
        go_wp2_with fail
        refine (gsame_at CA.out DA.out (decide_eq_true rfl)).mono ?_
        rintro e wb ⟨rfl, qb, hwb⟩
        have BB : Hid (Below w.heap.size w wb) := by rw [← hwb]; exact below_drewN BA.out qb
        have LB : Hid (Strs wb la L.length L) := by rw [← hwb]; exact LA.out.below (below_drewN (Below.refl _ _) qb)
        have MB : Hid (Strs wb ma L.length L) := by rw [← hwb]; exact MA.out.below (below_drewN (Below.refl _ _) qb)
        clear hwb
        go_wp2_with fail
        refine (same_at LB.out MB.out (decide_eq_true rfl)).mono ?_
        rintro e wc ⟨rfl, qc, hwc⟩
        have BC : Hid (Below w.heap.size w wc) := by rw [← hwc]; exact below_drewN BB.out qc
        clear hwc
        go_wp2_with fail
        refine (right_at (HC.out.below BC.out) (HL.out.below BC.out) HX.out HF.out hkd HRB.out).mono ?_
        rintro e wd ⟨rfl, bd⟩
        have BD : Hid (Below w.heap.size w wd) := BC.out.trans (bd.mono BC.out.size)
        clear bd
        go_wp2_with fail
        go_ret
        exact ⟨rfl, BD.out⟩
      | true =>
        rw [hcc, Bool.true_and] at HST
        refine (gsame_at C3.out (HC.out.below B3.out) hcc).mono ?_
        rintro e w5 ⟨rfl, q5, hw5⟩
        have B5 : Hid (Below w.heap.size w w5) := by rw [← hw5]; exact below_drewN B3.out q5
        have C5 : Hid (Cells w5 ca C.length C) := by rw [← hw5]; exact C3.out
        have D5 : Hid (Cells w5 da C.length C) := by rw [← hw5]; exact D3.out
        have L5 : Hid (Strs w5 la L.length L) := by rw [← hw5]; exact L3.out
        have M5 : Hid (Strs w5 ma L.length L) := by rw [← hw5]; exact M3.out
        clear hw5 hcc
        go_wp2_with fail
        obtain ⟨tb, htb⟩ : ∃ tb, decide (L = xs) = tb := ⟨_, rfl⟩
        have HTB := Lib.hid htb
        have HRB : Hid (rightB xs cs = tb) := by have := HST.out; rw [htb] at this; exact this
        refine (same_at L5.out (HL.out.below B5.out) HTB.out).mono ?_
        rintro e w4 ⟨rfl, q4, hw4⟩
        have B4 : Hid (Below w.heap.size w w4) := by rw [← hw4]; exact below_drewN B5.out q4
        have C4 : Hid (Cells w4 ca C.length C) := by rw [← hw4]; exact C5.out
        have D4 : Hid (Cells w4 da C.length C) := by rw [← hw4]; exact D5.out
        have L4 : Hid (Strs w4 la L.length L) := by rw [← hw4]; exact L5.out
        have M4 : Hid (Strs w4 ma L.length L) := by rw [← hw4]; exact M5.out
        clear hw4 htb
        cases tb with
        | false =>
          go_wp2_with fail
          refine (fixed_any _).mono ?_
          rintro e wa ⟨rfl, ba⟩
          have BA : Hid (Below w.heap.size w wa) := B4.out.trans (ba.mono B4.out.size)
          have CA := Lib.hid (C4.out.below ba)
          have DA := Lib.hid (D4.out.below ba)
          have LA := Lib.hid (L4.out.below ba)
          have MA := Lib.hid (M4.out.below ba)
          clear ba
          go_wp2_with fail
          refine (gsame_at CA.out DA.out (decide_eq_true rfl)).mono ?_
          rintro e wb ⟨rfl, qb, hwb⟩
          have BB : Hid (Below w.heap.size w wb) := by rw [← hwb]; exact below_drewN BA.out qb
          have LB : Hid (Strs wb la L.length L) := by rw [← hwb]; exact LA.out.below (below_drewN (Below.refl _ _) qb)
          have MB : Hid (Strs wb ma L.length L) := by rw [← hwb]; exact MA.out.below (below_drewN (Below.refl _ _) qb)
          clear hwb
          go_wp2_with fail
          refine (same_at LB.out MB.out (decide_eq_true rfl)).mono ?_
          rintro e wc ⟨rfl, qc, hwc⟩
          have BC : Hid (Below w.heap.size w wc) := by rw [← hwc]; exact below_drewN BB.out qc
          clear hwc
          go_wp2_with fail
          refine (right_at (HC.out.below BC.out) (HL.out.below BC.out) HX.out HF.out hkd HRB.out).mono ?_
          rintro e wd ⟨rfl, bd⟩
          have BD : Hid (Below w.heap.size w wd) := BC.out.trans (bd.mono BC.out.size)
          clear bd
          go_wp2_with fail
          go_ret
          exact ⟨rfl, BD.out⟩
        | true =>
          go_wp2_with fail
          refine (fixed_any _).mono ?_
          rintro e wa ⟨rfl, ba⟩
          have BA : Hid (Below w.heap.size w wa) := B4.out.trans (ba.mono B4.out.size)
          have CA := Lib.hid (C4.out.below ba)
          have DA := Lib.hid (D4.out.below ba)
          have LA := Lib.hid (L4.out.below ba)
          have MA := Lib.hid (M4.out.below ba)
          clear ba
          go_wp2_with fail
          refine (gsame_at CA.out DA.out (decide_eq_true rfl)).mono ?_
          rintro e wb ⟨rfl, qb, hwb⟩
          have BB : Hid (Below w.heap.size w wb) := by rw [← hwb]; exact below_drewN BA.out qb
          have LB : Hid (Strs wb la L.length L) := by rw [← hwb]; exact LA.out.below (below_drewN (Below.refl _ _) qb)
          have MB : Hid (Strs wb ma L.length L) := by rw [← hwb]; exact MA.out.below (below_drewN (Below.refl _ _) qb)
          clear hwb
          go_wp2_with fail
          refine (same_at LB.out MB.out (decide_eq_true rfl)).mono ?_
          rintro e wc ⟨rfl, qc, hwc⟩
          have BC : Hid (Below w.heap.size w wc) := by rw [← hwc]; exact below_drewN BB.out qc
          clear hwc
          go_wp2_with fail
          refine (right_at (HC.out.below BC.out) (HL.out.below BC.out) HX.out HF.out hkd HRB.out).mono ?_
          rintro e wd ⟨rfl, bd⟩
          have BD : Hid (Below w.heap.size w wd) := BC.out.trans (bd.mono BC.out.size)
          clear bd
          go_wp2_with fail
          go_ret
          exact ⟨rfl, BD.out⟩
    · have hd1 : decide ((xs.length : Int) ≤ 16) = false := decide_eq_false (by omega)
      have HRB : Hid (rightB xs cs = false) := by have := HST.out; rw [decide_eq_false h16] at this; exact this
      have C4 := C3
      have D4 := D3
      have L4 := L3
      have M4 := M3
      clear h16
      go_wp2_with fail
      refine (fixed_any _).mono ?_
      rintro e wa ⟨rfl, ba⟩
      have BA : Hid (Below w.heap.size w wa) := B3.out.trans (ba.mono B3.out.size)
      have CA := Lib.hid (C4.out.below ba)
      have DA := Lib.hid (D4.out.below ba)
      have LA := Lib.hid (L4.out.below ba)
      have MA := Lib.hid (M4.out.below ba)
      clear ba
      go_wp2_with fail
      refine (gsame_at CA.out DA.out (decide_eq_true rfl)).mono ?_
      rintro e wb ⟨rfl, qb, hwb⟩
      have BB : Hid (Below w.heap.size w wb) := by rw [← hwb]; exact below_drewN BA.out qb
      have LB : Hid (Strs wb la L.length L) := by rw [← hwb]; exact LA.out.below (below_drewN (Below.refl _ _) qb)
      have MB : Hid (Strs wb ma L.length L) := by rw [← hwb]; exact MA.out.below (below_drewN (Below.refl _ _) qb)
      clear hwb
      go_wp2_with fail
      refine (same_at LB.out MB.out (decide_eq_true rfl)).mono ?_
      rintro e wc ⟨rfl, qc, hwc⟩
      have BC : Hid (Below w.heap.size w wc) := by rw [← hwc]; exact below_drewN BB.out qc
      clear hwc
      go_wp2_with fail
      refine (right_at (HC.out.below BC.out) (HL.out.below BC.out) HX.out HF.out hkd HRB.out).mono ?_
      rintro e wd ⟨rfl, bd⟩
      have BD : Hid (Below w.heap.size w wd) := BC.out.trans (bd.mono BC.out.size)
      clear bd
      go_wp2_with fail
      go_ret
      exact ⟨rfl, BD.out⟩
end Go.Proofs.Ytdnihlfnglkjiaa
