/- Does all stand in order: the walk. -/
import Derived.Test.YtdnihlfnglkjiaaCanon
namespace Go.Proofs.Ytdnihlfnglkjiaa
open Go.RowKit
attribute [local go_sem] alloc_drewN setCell_drewN


theorem strs_take {w : World} {a : Option Addr} {n i : Nat} {xs : List ByteArray} (h : Strs w a n xs) (hi : i ≤ n) : Strs w a i (xs.take i) := by
  refine ⟨by rw [List.length_take, h.1]; omega, by have := h.2.1; omega, fun h0 => ?_⟩
  obtain ⟨b, off, he, hb, hc⟩ := h.2.2 (by omega)
  exact ⟨b, off, he, hb, fun j hj => by rw [hc j (by omega), List.getD_eq_getElem?_getD, List.getD_eq_getElem?_getD, List.getElem?_take_of_lt hj]⟩
def WPost (b : Bool) (w : World) (e : Ending) (w' : World) : Prop := e = .returned (.bool b) ∧ Below w.heap.size w w'
theorem contains_at {a : Option Addr} {n c : Nat} {xs : List ByteArray} {s : ByteArray} {w : World} (hl : Strs w a n xs) {t : Bool} (ht : decide (0 ≤ place xs s) = t) : Calls Try.prog 29 #[.slice a n c, .string s] w (BPost t w) := by
  subst ht
  exact contains_any a n c xs s w hl
set_option maxHeartbeats 1000000 in
theorem right_any (a b : Option Addr) (n c k d : Nat) (cs : List Glyph) (xs : List ByteArray) (w : World) (hc : Cells w a n cs) (hl : Strs w b k xs) (hx : ∀ x ∈ xs, x.size ≤ 4611686018427387904) (hf : Fit cs) (hkd : k ≤ d) : Calls Try.prog 22 #[.slice a n c, .slice b k d] w (WPost (rightB xs cs) w) := by
  obtain rfl := hc.1
  obtain rfl := hl.1
  have hcn := hc.2.1
  have HC := Lib.hid hc
  have HL := Lib.hid hl
  have HX := Lib.hid hx
  have HF := Lib.hid hf
  clear hc hl hx hf
  by_cases h16 : xs.length ≤ 16
  · have hd : decide (16 < (xs.length : Int)) = false := decide_eq_false (by omega)
    go_enter Try.func22, Try.ntmps22
    go_wp2_with fail
    go_loopw [16] (fun v wr => ∃ (i m : Nat), i ≤ xs.length ∧ v = .int .i64 i ∧ wr = w.drewN m ∧ Hid ((∀ j, j < i → may (xs.getD j ByteArray.empty) = true) ∧ ∀ q j, q < j → j < i → xs.getD q ByteArray.empty ≠ xs.getD j ByteArray.empty)) (fun v _ => xs.length - (intOf v).toNat)
    case atStart => exact ⟨0, 0, by omega, rfl, rfl, fun j h => absurd h (by omega), fun q j _ h => absurd h (by omega)⟩
    case round =>
      obtain ⟨i, m, hi, rfl, rfl, HG⟩ := hrel
      by_cases hin : i < xs.length
      · obtain ⟨bl, off, rfl, hbl, hcl⟩ := HL.out.2.2 (by omega)
        have e1 := hcl i hin
        have hs : (xs.getD i ByteArray.empty).size ≤ 4611686018427387904 := by
          rw [getT hin]
          exact HX.out _ (List.getElem_mem _)
        obtain ⟨s, hse⟩ : ∃ s, xs.getD i ByteArray.empty = s := ⟨_, rfl⟩
        rw [hse] at e1 hs
        have HSE := Lib.hid hse
        clear hcl hse
        cases hm : may s with
        | false =>
          have HR := Lib.hid (right_no (l := xs) (cs := cs) (fun h => by have := right_may h hin; rw [HSE.out, hm] at this; cases this))
          have HMY := Lib.hid hm
          clear hm
          go_wp2_with fail
          refine (may_at (by omega) HMY.out).mono ?_
          rintro e w2 ⟨rfl, m2, rfl⟩
          go_wp2_with fail
          go_ret
          exact ⟨by rw [HR.out]; rfl, below_drewN (Below.refl _ _) _⟩
        | true =>
          have HMY := Lib.hid hm
          have HTK : Hid (Strs w (some ⟨bl, off, none⟩) i (xs.take i)) := strs_take HL.out (by omega)
          clear hm
          go_wp2_with fail
          refine (may_at (by omega) HMY.out).mono ?_
          rintro e w2 ⟨rfl, m2, rfl⟩
          have HTK2 : Hid (Strs (w.drewN (m + m2)) (some ⟨bl, off, none⟩) i (xs.take i)) := HTK.out.below (below_drewN (Below.refl _ _) _)
          go_wp2_with fail
          rcases place_cases (xs.take i) s with ⟨p, hp, hpl⟩ | hpl
          · have hpi : p < i := by rw [List.length_take] at hp; omega
            have HR := Lib.hid (right_no (l := xs) (cs := cs) (fun h => right_apart h hpi hin (by
              have h1 := place_get (xs := xs.take i) (s := s) (by omega)
              rw [hpl, Int.toNat_natCast, takeT hpi] at h1
              rw [h1, HSE.out])))
            have HD := Lib.hid (show decide (0 ≤ place (xs.take i) s) = true from decide_eq_true (by omega))
            clear hp hpl
            refine (contains_at HTK2.out HD.out).mono ?_
            rintro e w3 ⟨rfl, m3, rfl⟩
            go_wp2_with fail
            go_ret
            exact ⟨by rw [HR.out]; rfl, below_drewN (Below.refl _ _) _⟩
          · have HD := Lib.hid (show decide (0 ≤ place (xs.take i) s) = false from decide_eq_false (by omega))
            have HN : Hid ((∀ j, j < i + 1 → may (xs.getD j ByteArray.empty) = true) ∧ ∀ q j, q < j → j < i + 1 → xs.getD q ByteArray.empty ≠ xs.getD j ByteArray.empty) := by
              refine ⟨fun j hj => ?_, fun q j hq hj => ?_⟩
              · rcases Nat.lt_or_ge j i with h1 | h1
                · exact HG.out.1 j h1
                · obtain rfl : j = i := by omega
                  rw [HSE.out]
                  exact HMY.out
              · rcases Nat.lt_or_ge j i with h1 | h1
                · exact HG.out.2 q j hq h1
                · obtain rfl : j = i := by omega
                  rw [HSE.out]
                  intro e
                  have h2 : s ∈ xs.take j := by
                    rw [← e, ← takeT hq, getT (by rw [List.length_take]; omega)]
                    exact List.getElem_mem _
                  have := place_mem.2 h2
                  omega
            clear hpl
            refine (contains_at HTK2.out HD.out).mono ?_
            rintro e w3 ⟨rfl, m3, rfl⟩
            go_wp2_with fail
            go_roundw
            case rel => exact ⟨i + 1, m + m2 + m3, by omega, by go_num, rfl, HN⟩
            case measure => simp [intOf]; omega
      · obtain rfl : i = xs.length := by omega
        have HGD : Hid (Good xs) := HG.out
        have HU0 := Lib.hid (upto_start xs cs)
        go_wp2_with fail
        go_loopw [7, 34] (fun tv v wr => ∃ (i top : Nat), i ≤ cs.length ∧ v = .int .i64 i ∧ tv = .int .i64 top ∧ top ≤ xs.length ∧ Hid (Upto xs cs i top ∧ Below w.heap.size w wr)) (fun _ v _ => cs.length - (intOf v).toNat)
        case atStart => exact ⟨0, 0, by omega, rfl, rfl, by omega, HU0.out, below_drewN (Below.refl _ _) _⟩
        case round =>
          obtain ⟨i, top, hi, rfl, rfl, htop, HU⟩ := hrel
          by_cases hin : i < cs.length
          · obtain ⟨bl, off, rfl, hbl, hcc⟩ := HC.out.2.2 (by omega)
            obtain ⟨x, hx⟩ : ∃ x, cs.getD i g0 = x := ⟨_, rfl⟩
            have hgx := hcc i hin
            rw [hx] at hgx
            have HGX := Lib.hid (hgx.below hbl HU.out.2)
            obtain ⟨e0, e1, e2, e3, e4, e5⟩ := HGX.out
            obtain ⟨n, hn, hn6⟩ := HF.out.at_ hin
            rw [hx] at hn
            rw [hn] at e5
            have HNX : Hid ((cs.getD i g0).l = n) := by rw [hx]; exact hn
            clear hcc hgx hx hn
            by_cases h1 : top + 1 < n
            · have hd1 : decide ((top : Int) + 1 < (n : Int)) = true := decide_eq_true (by omega)
              have HR := Lib.hid (right_no (upto_not HGD.out HU.out.1 hin HNX.out (.inl h1)))
              clear h1
              go_wp2_with fail
              go_ret
              exact ⟨by rw [HR.out]; rfl, HU.out.2.alloc HU.out.2.size _⟩
            · have hd1 : decide ((top : Int) + 1 < (n : Int)) = false := decide_eq_false (by omega)
              by_cases h2 : xs.length < n
              · have hd2 : decide (xs.length < n) = true := decide_eq_true h2
                have HR := Lib.hid (right_no (upto_not HGD.out HU.out.1 hin HNX.out (.inr h2)))
                clear h1 h2
                go_wp2_with fail
                go_ret
                exact ⟨by rw [HR.out]; rfl, HU.out.2.alloc HU.out.2.size _⟩
              · have hd2 : decide (xs.length < n) = false := decide_eq_false h2
                by_cases h3 : top < n
                · obtain rfl : n = top + 1 := by omega
                  have hd3 : decide ((xs.length : Int) < (top : Int) + 1) = false := decide_eq_false (by omega)
                  have HN := Lib.hid (upto_next HGD.out HU.out.1 HNX.out (by omega))
                  have HB : ∀ o, Hid (Below w.heap.size w (wr.alloc o)) := fun o => HU.out.2.alloc HU.out.2.size o
                  have HBB := Lib.hid HB
                  have ht2 : top + 1 ≤ xs.length := by omega
                  clear h1 h2 h3 HB
                  go_wp2_with fail
                  go_roundw
                  case rel => exact ⟨i + 1, top + 1, by omega, by go_num, by go_num, ht2, HN.out, (HBB.out _).out⟩
                  case measure => simp [intOf]; omega
                · have hd3 : decide (top < n) = false := decide_eq_false h3
                  have HN := Lib.hid (upto_low HGD.out HU.out.1 HNX.out (by omega))
                  have HB : ∀ o, Hid (Below w.heap.size w (wr.alloc o)) := fun o => HU.out.2.alloc HU.out.2.size o
                  have HBB := Lib.hid HB
                  clear h1 h2 h3 HB
                  go_wp2_with fail
                  go_roundw
                  case rel => exact ⟨i + 1, top, by omega, by go_num, rfl, htop, HN.out, (HBB.out _).out⟩
                  case measure => simp [intOf]; omega
          · obtain rfl : i = cs.length := by omega
            by_cases h1 : top = xs.length
            · have hd1 : ((top : Int) == (xs.length : Int)) = true := by rw [h1]; exact beq_self_eq_true _
              have HR := Lib.hid (right_yes ((upto_end HU.out.1 h16).2 h1))
              clear h1
              go_wp2_with fail
              go_ret
              exact ⟨by rw [HR.out]; rfl, HU.out.2⟩
            · have hd1 : ((top : Int) == (xs.length : Int)) = false := beq_eq_false_iff_ne.2 (by omega)
              have HR := Lib.hid (right_no (fun h => h1 ((upto_end HU.out.1 h16).1 h)))
              clear h1
              go_wp2_with fail
              go_ret
              exact ⟨by rw [HR.out]; rfl, HU.out.2⟩
  · have hd : decide (16 < (xs.length : Int)) = true := decide_eq_true (by omega)
    have HR := Lib.hid (right_no (l := xs) (cs := cs) (fun h => h16 h.1))
    clear h16
    go_enter Try.func22, Try.ntmps22
    go_wp2_with fail
    go_ret
    exact ⟨by rw [HR.out]; rfl, Below.refl _ _⟩
end Go.Proofs.Ytdnihlfnglkjiaa
