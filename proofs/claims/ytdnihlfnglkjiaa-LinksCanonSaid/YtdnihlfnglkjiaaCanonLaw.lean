/- Cells with their links numbered anew are the document's, and new memory: the walk. -/
import Derived.Test.YtdnihlfnglkjiaaMeans
import Derived.Test.YtdnihlfnglkjiaaTables
namespace Go.Proofs.Ytdnihlfnglkjiaa
open Go.RowKit
attribute [local go_sem] alloc_drewN setCell_drewN


theorem srow_apart {w : World} {b1 b2 g n c m d : Nat} {a : Option Addr} {zs : List Glyph} {xs : List ByteArray} (h : CRow w b1 (.slice (some ⟨g, 0, none⟩) n c) zs) (k : SRow w b2 (.slice a m d) xs) (i : Nat) (u : Value) : SRow (w.setCell ⟨g, i, none⟩ u) b2 (.slice a m d) xs := by
  refine World.ownsRow.kept k (turn_store (turn_refl w _) i u) (.inr fun e => ?_)
  rcases h.2 with ⟨h1, _⟩ | ⟨g1, cap1, cur1, h1, _, h3, _⟩
  · cases h1
  · injection h1 with h0 _ _
    injection h0 with h0
    injection h0 with h0
    subst h0
    rcases k.2 with ⟨k1, _⟩ | ⟨g2, cap2, cur2, k1, _, k3, _⟩
    · rw [k1] at e
      cases e
    · rw [k1] at e
      injection e with e
      have e2 : g2 = g := e
      subst e2
      rw [h3] at k3
      injection k3 with k3
      injection k3 with _ k3
      cases k3
set_option maxRecDepth 10000 in
set_option maxHeartbeats 2000000 in
theorem canon_walk (a b : Option Addr) (n c k d : Nat) (cs : List Glyph) (xs : List ByteArray) (w : World) (hc : Cells w a n cs) (hl : Strs w b k xs) (hx : ∀ x ∈ xs, x.size ≤ 4611686018427387904) (hf : Fit cs) : Calls Try.prog 5 #[.slice a n c, .slice b k d] w fun e w' => e = .returned (.bool true) ∧ Below w.heap.size w w' := by
  obtain rfl := hc.1
  obtain rfl := hl.1
  have hcn := hc.2.1
  have HC := Lib.hid hc
  have HL := Lib.hid hl
  have HX := Lib.hid hx
  have HF := Lib.hid hf
  clear hc hl hx hf
  go_enter Try.func5, Try.ntmps5
  go_wp2_with fail
  refine (great_any a b cs.length c xs.length d xs _ hcn HL.out HX.out).mono ?_
  rintro e w1 ⟨g, rfl, ⟨m1, rfl⟩, hg⟩
  have HG := Lib.hid hg
  clear hg
  cases g with
  | true =>
    go_wp2_with fail
    refine (fixed_any _).mono ?_
    rintro e w2 ⟨rfl, b2⟩
    have B2 : Hid (Below w.heap.size w w2) := (below_drewN (Below.refl _ _) m1).trans b2
    clear b2
    go_wp2_with fail
    go_ret
    exact ⟨rfl, B2.out⟩
  | false =>
    obtain ⟨hn3, hn6, hxs⟩ := HG.out rfl
    have HXS := Lib.hid hxs
    have B1 : Hid (Below w.heap.size w (w.drewN m1)) := below_drewN (Below.refl _ _) m1
    have HC1 := Lib.hid (HC.out.below B1.out)
    clear hxs
    go_wp2_with fail
    refine (gcopy_any a cs.length c cs _ HC1.out (by omega)).mono ?_
    rintro e w2 ⟨v2, rfl, r2, b2⟩
    obtain ⟨oa, oc, rfl, o2⟩ := r2.cells
    have B2 : Hid (Below w.heap.size w w2) := B1.out.trans b2
    have O2 := Lib.hid o2
    clear r2 b2 o2
    go_wp2_with fail
    refine (copy_any b xs.length d xs _ (HL.out.below B2.out) (by omega)).mono ?_
    rintro e w3 ⟨v3, rfl, r3, b3⟩
    obtain ⟨ta, tc, rfl, t3⟩ := r3.strs
    have htc := srow_cap r3
    have B3 : Hid (Below w.heap.size w w3) := B2.out.trans (b3.mono B2.out.size)
    have O3 := Lib.hid (O2.out.below b3)
    have T3 := Lib.hid t3
    clear r3 b3 t3
    go_wp2_with fail
    refine (canon_any oa ta cs.length oc xs.length tc cs xs _ O3.out T3.out HX.out HF.out hn3).mono ?_
    rintro e w4 ⟨v4, v5, rfl, r4, r5, b4⟩
    have B4 : Hid (Below w.heap.size w w4) := B3.out.trans (b4.mono B3.out.size)
    obtain ⟨C, hC⟩ : ∃ C, canon xs cs = C := ⟨_, rfl⟩
    obtain ⟨L, hL⟩ : ∃ L, tx xs cs cs.length = L := ⟨_, rfl⟩
    have hCl := canon_len xs cs
    have hTL := tx_len xs cs cs.length
    have hSZ : ∀ j, j < (tx xs cs cs.length).length → ((tx xs cs cs.length).getD j ByteArray.empty).size ≤ 16384 := fun j hj => by
      rw [getT hj]
      exact HXS.out _ (tx_all xs cs cs.length _ (List.getElem_mem hj)).2
    rw [hC] at r4 hCl
    rw [hL] at r5 hTL hSZ
    obtain ⟨ca, cc, rfl, _⟩ := r4.cells
    obtain ⟨la, lc, rfl, _⟩ := r5.strs
    have R4 := Lib.hid r4
    have R5 := Lib.hid r5
    have C4 := Lib.hid b4
    have HCE := Lib.hid hC
    have HLE := Lib.hid hL
    have HCL := Lib.hid hCl
    have HSZ := Lib.hid hSZ
    have hL3 : L.length ≤ 3000 := by omega
    clear r4 r5 b4 hC hL hCl hTL hSZ
    go_wp2_with fail
    refine (ref_canon_any a b cs.length c xs.length d cs xs _ (HC.out.below B4.out) (HL.out.below B4.out) HX.out HF.out hn3).mono ?_
    rintro e w5 ⟨v6, v7, rfl, r6, r7, b5⟩
    have B5 : Hid (Below w.heap.size w w5) := B4.out.trans (b5.mono B4.out.size)
    have C5 : Hid (Below w3.heap.size w3 w5) := C4.out.trans (b5.mono C4.out.size)
    rw [HCE.out] at r6
    rw [HLE.out] at r7
    obtain ⟨da, dc, rfl, _⟩ := r6.cells
    obtain ⟨ma, mc, rfl, _⟩ := r7.strs
    have R45 := Lib.hid (R4.out.below b5)
    have R55 := Lib.hid (R5.out.below b5)
    have R6 := Lib.hid r6
    have R7 := Lib.hid r7
    clear r6 r7 b5
    go_wp2_with fail
    refine (fixed_any _).mono ?_
    rintro e w6 ⟨rfl, b6⟩
    have B6 : Hid (Below w.heap.size w w6) := B5.out.trans (b6.mono B5.out.size)
    have C6 : Hid (Below w3.heap.size w3 w6) := C5.out.trans (b6.mono C5.out.size)
    have R46 := Lib.hid (R45.out.below b6)
    have R56 := Lib.hid (R55.out.below b6)
    have R66 := Lib.hid (R6.out.below b6)
    have R76 := Lib.hid (R7.out.below b6)
    clear b6
    go_wp2_with fail
    refine (gsame_at (cells_of R46.out) (cells_of R66.out) (decide_eq_true rfl)).mono ?_
    rintro e w7 ⟨rfl, q7, hw7⟩
    have B7 : Hid (Below w.heap.size w w7) := by rw [← hw7]; exact below_drewN B6.out q7
    have C7 : Hid (Below w3.heap.size w3 w7) := by rw [← hw7]; exact below_drewN C6.out q7
    have R47 : Hid (CRow w7 w3.heap.size (.slice ca C.length cc) C) := by rw [← hw7]; exact R46.out.draws _
    have R57 : Hid (SRow w7 w3.heap.size (.slice la L.length lc) L) := by rw [← hw7]; exact R56.out.draws _
    have R77 : Hid (SRow w7 w4.heap.size (.slice ma L.length mc) L) := by rw [← hw7]; exact R76.out.draws _
    clear hw7
    go_wp2_with fail
    refine (same_at (strs_of R57.out) (strs_of R77.out) (decide_eq_true rfl)).mono ?_
    rintro e w8 ⟨rfl, q8, hw8⟩
    have B8 : Hid (Below w.heap.size w w8) := by rw [← hw8]; exact below_drewN B7.out q8
    have C8 : Hid (Below w3.heap.size w3 w8) := by rw [← hw8]; exact below_drewN C7.out q8
    have R48 : Hid (CRow w8 w3.heap.size (.slice ca C.length cc) C) := by rw [← hw8]; exact R47.out.draws _
    have R58 : Hid (SRow w8 w3.heap.size (.slice la L.length lc) L) := by rw [← hw8]; exact R57.out.draws _
    clear hw8
    go_wp2_with fail
    obtain ⟨rb, hrb⟩ : ∃ rb, rightB xs cs = rb := ⟨_, rfl⟩
    have HRB := Lib.hid hrb
    refine (right_at (O3.out.below C8.out) (T3.out.below C8.out) HX.out HF.out htc HRB.out).mono ?_
    rintro e w9 ⟨rfl, b9⟩
    have B9 : Hid (Below w.heap.size w w9) := B8.out.trans (b9.mono B8.out.size)
    have C9 : Hid (Below w3.heap.size w3 w9) := C8.out.trans (b9.mono C8.out.size)
    have R49 := Lib.hid (R48.out.below b9)
    have R59 := Lib.hid (R58.out.below b9)
    clear b9 hrb
    go_wp2_with fail
    have hx10 := ref_right_any a b cs.length c xs.length d cs xs w9 (HC.out.below B9.out) (HL.out.below B9.out) HX.out HF.out hn3
    rw [HRB.out] at hx10
    refine hx10.mono ?_
    clear hx10
    rintro e w10 ⟨rfl, b10⟩
    have B10 : Hid (Below w.heap.size w w10) := B9.out.trans (b10.mono B9.out.size)
    have C10 : Hid (Below w3.heap.size w3 w10) := C9.out.trans (b10.mono C9.out.size)
    have R410 := Lib.hid (R49.out.below b10)
    have R510 := Lib.hid (R59.out.below b10)
    clear b10
    have hrr : (rb != rb) = false := by simp
    have hC3 : C.length ≤ 3000 := by have := HCL.out; omega
    go_wp2_with fail
    go_loopw [58] (fun v wr => ∃ (i : Nat) (zs : List Glyph), i ≤ C.length ∧ v = .int .i64 i ∧ Hid (CRow wr w3.heap.size (.slice ca C.length cc) zs ∧ SRow wr w3.heap.size (.slice la L.length lc) L ∧ Below w3.heap.size w3 wr)) (fun v _ => C.length - (intOf v).toNat)
    case atStart => exact ⟨0, C, by omega, rfl, R410.out, R510.out, C10.out⟩
    case round =>
      obtain ⟨i, zs, hi, rfl, HR⟩ := hrel
      by_cases hin : i < C.length
      · obtain ⟨g, rfl⟩ := crow_addr HR.out.1 (by omega)
        obtain ⟨⟨p0, _⟩, hbg, hfz⟩ := crow_at HR.out.1 hin
        have f0 := hfz (i * 6)
        obtain ⟨r, hr⟩ : ∃ r, (zs.getD i g0).r = r := ⟨_, rfl⟩
        rw [hr] at p0
        have HN : ∀ u : Int, Hid (∃ ys, CRow (wr.setCell ⟨g, i * 6, none⟩ (.int .i32 u)) w3.heap.size (.slice (some ⟨g, 0, none⟩) C.length cc) ys ∧ SRow (wr.setCell ⟨g, i * 6, none⟩ (.int .i32 u)) w3.heap.size (.slice la L.length lc) L ∧ Below w3.heap.size w3 (wr.setCell ⟨g, i * 6, none⟩ (.int .i32 u))) := fun u =>
          ⟨_, crow_put (j := 0) (d := ⟨u, (zs.getD i g0).w, (zs.getD i g0).f, (zs.getD i g0).b, (zs.getD i g0).a, (zs.getD i g0).l⟩) (u := .int .i32 u) HR.out.1 hin (by omega) rfl, srow_apart HR.out.1 HR.out.2.1 _ _, HR.out.2.2.setCell (p := ⟨g, i * 6, none⟩) hbg _⟩
        have HNN := Lib.hid HN
        clear hfz hr HN
        go_wp2_with fail
        go_roundw
        case rel =>
          obtain ⟨ys, hys⟩ := (HNN.out _).out
          exact ⟨i + 1, ys, by omega, by go_num, hys⟩
        case measure => simp [intOf]; omega
      · obtain rfl : i = C.length := by omega
        have R2 : Hid (SRow wr w3.heap.size (.slice la L.length lc) L ∧ Below w3.heap.size w3 wr) := HR.out.2
        go_wp2_with fail
        go_loopw [74] (fun i wz => ∃ (k : Nat) (ys : List ByteArray), k ≤ L.length ∧ i = .int .i64 k ∧ ys.length = L.length ∧ Hid (TRel L.length k la lc ys w3 wz)) (fun i _ => L.length - (intOf i).toNat)
        case atStart => exact ⟨0, L, by omega, rfl, rfl, ⟨R2.out.1, R2.out.2, fun j _ hj => HSZ.out j hj⟩⟩
        case round =>
          obtain ⟨k, ys, hk, rfl, hyl, HT⟩ := hrel
          by_cases hkn : k < L.length
          · obtain ⟨g, rfl⟩ := srow_addr HT.out.1 (by omega)
            have e1 := srow_cell HT.out.1 hkn
            obtain ⟨_, f1, hbg, hset⟩ := srow_set HT.out.1 hkn (ys.getD k ByteArray.empty ++ ⟨#[120]⟩)
            have hsz := HT.out.2.2 k (Nat.le_refl _) hkn
            have HN : Hid (TRel L.length (k + 1) (some ⟨g, 0, none⟩) lc (ys.set k (ys.getD k ByteArray.empty ++ ⟨#[120]⟩)) w3 (World.setCell _ ⟨g, k, none⟩ (.string (ys.getD k ByteArray.empty ++ ⟨#[120]⟩)))) := ⟨hset, HT.out.2.1.setCell (p := ⟨g, k, none⟩) hbg _, fun j h1 h2 => by
              rw [List.getD_eq_getElem?_getD, List.getElem?_set_ne (by omega), ← List.getD_eq_getElem?_getD]
              exact HT.out.2.2 j (by omega) h2⟩
            clear hset
            obtain ⟨x, hxe⟩ : ∃ x, ys.getD k ByteArray.empty = x := ⟨_, rfl⟩
            rw [hxe] at e1 hsz HN
            have hyl2 : (ys.set k (x ++ ⟨#[120]⟩)).length = L.length := by rw [List.length_set]; exact hyl
            go_wp2_with fail
            go_roundw
            case rel => exact ⟨k + 1, _, by omega, by go_num, hyl2, HN⟩
            case measure => simp [intOf]; omega
          · obtain rfl : k = L.length := by omega
            have BR := Lib.hid (B3.out.trans (HT.out.2.1.mono B3.out.size))
            have CR := Lib.hid HT.out.2.1
            go_wp2_with fail
            refine (gsame_at (O3.out.below CR.out) (HC.out.below BR.out) (decide_eq_true rfl)).mono ?_
            rintro e w12 ⟨rfl, m12, hw12⟩
            have BR12 : Hid (Below w.heap.size w w12) := by rw [← hw12]; exact below_drewN BR.out m12
            have CR12 : Hid (Below w3.heap.size w3 w12) := by rw [← hw12]; exact below_drewN CR.out m12
            clear hw12
            go_wp2_with fail
            refine (same_at (T3.out.below CR12.out) (HL.out.below BR12.out) (decide_eq_true rfl)).mono ?_
            rintro e w13 ⟨rfl, m13, rfl⟩
            go_wp2_with fail
            go_ret
            exact ⟨rfl, below_drewN BR12.out _⟩
end Go.Proofs.Ytdnihlfnglkjiaa
