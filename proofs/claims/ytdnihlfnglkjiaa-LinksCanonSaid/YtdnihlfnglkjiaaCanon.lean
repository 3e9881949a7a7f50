/- Cells with their links numbered anew. -/
import Derived.Test.YtdnihlfnglkjiaaRefCanon
namespace Go.Proofs.Ytdnihlfnglkjiaa
open Go.RowKit
attribute [local go_sem] alloc_drewN setCell_drewN


theorem crow_under {w w' : World} {base B g n c : Nat} {xs : List Glyph} (h : CRow w base (.slice (some ⟨g, 0, none⟩) n c) xs) (hg : g < B) (hb : Below B w w') : CRow w' base (.slice (some ⟨g, 0, none⟩) n c) xs := by
  refine ⟨h.1, ?_⟩
  rcases h.2 with ⟨h1, _⟩ | ⟨g', cap, cur, h1, h2, h3, h4⟩
  · cases h1
  · injection h1 with h0 h1 h8
    injection h0 with h0
    injection h0 with h0
    subst h0 h8
    exact .inr ⟨g, c, cur, by rw [h1], h2, (hb.block g hg).trans h3, h4⟩
/-- The cells and the texts so far; w0: the world behind the clone. -/
def CaRel (t : List ByteArray) (cs : List Glyph) (q : Nat) (zs : List Glyph) (av lv : Value) (w w0 wr : World) : Prop :=
  CRow wr w.heap.size av zs ∧ (∀ g, av.ownBlock = some g → g < w0.heap.size) ∧ SRow wr w0.heap.size lv (tx t cs q) ∧ zs.length = cs.length ∧ Below w.heap.size w wr ∧ w0.heap.size ≤ wr.heap.size ∧
  (∀ j, j < q → zs.getD j g0 = renum t (tx t cs (j + 1)) (cs.getD j g0)) ∧ ∀ j, q ≤ j → j < cs.length → zs.getD j g0 = cs.getD j g0
theorem ca_next {t : List ByteArray} {cs zs : List Glyph} {q : Nat} {av lv lv' : Value} {w w0 wr wz : World} {d : Glyph} (h : CaRel t cs q zs av lv w w0 wr) (hq : q < cs.length) (hd : renum t (tx t cs (q + 1)) (cs.getD q g0) = d)
    (k1 : CRow wz w.heap.size av (zs.set q d)) (k2 : SRow wz w0.heap.size lv' (tx t cs (q + 1))) (k3 : Below w.heap.size w wz) (k4 : w0.heap.size ≤ wz.heap.size) : CaRel t cs (q + 1) (zs.set q d) av lv' w w0 wz := by
  refine ⟨k1, h.2.1, k2, by rw [List.length_set]; exact h.2.2.2.1, k3, k4, fun j hj => ?_, fun j hj hj2 => ?_⟩
  · by_cases hjq : j = q
    · subst hjq
      rw [set_getD (by rw [h.2.2.2.1]; exact hq), hd]
    · rw [List.getD_eq_getElem?_getD, List.getElem?_set_ne (by omega), ← List.getD_eq_getElem?_getD]
      exact h.2.2.2.2.2.2.1 j (by omega)
  · rw [List.getD_eq_getElem?_getD, List.getElem?_set_ne (by omega), ← List.getD_eq_getElem?_getD]
    exact h.2.2.2.2.2.2.2 j (by omega) hj2
set_option maxHeartbeats 1000000 in
theorem canon_any (a b : Option Addr) (n c k d : Nat) (cs : List Glyph) (xs : List ByteArray) (w : World) (hc : Cells w a n cs) (hl : Strs w b k xs) (hx : ∀ x ∈ xs, x.size ≤ 4611686018427387904) (hf : Fit cs) (hn : n ≤ 3000) : Calls Try.prog 19 #[.slice a n c, .slice b k d] w (CanonPost xs cs w) := by
  obtain rfl := hc.1
  obtain rfl := hl.1
  have HC := Lib.hid hc
  have HL := Lib.hid hl
  have HX := Lib.hid hx
  have HF := Lib.hid hf
  clear hc hl hx hf
  go_enter Try.func19, Try.ntmps19
  go_wp2_with fail
  refine (gclone_any a cs.length c cs _ HC.out (by omega)).mono ?_
  rintro e w1 ⟨v1, rfl, r1, b1⟩
  obtain ⟨oa, oc, rfl, _⟩ := r1.cells
  have HB : Hid (CaRel xs cs 0 cs (.slice oa cs.length oc) (.slice none 0 0) w w1 w1) := ⟨r1, fun g hg => (World.ownsRow.lt r1 g hg).2, SRow.nil _ _, rfl, b1, Nat.le_refl _, fun j hj => absurd hj (by omega), fun _ _ _ => rfl⟩
  have hws : w.heap.size ≤ w1.heap.size := b1.size
  clear r1 b1
  go_wp2_with fail
  go_loopw [7, 15] (fun lv i wr => ∃ (q : Nat) (zs : List Glyph), q ≤ cs.length ∧ i = .int .i64 q ∧ Hid (CaRel xs cs q zs (.slice oa cs.length oc) lv w w1 wr)) (fun _ i _ => cs.length - (intOf i).toNat)
  case atStart => exact ⟨0, cs, by omega, rfl, HB⟩
  case round =>
    obtain ⟨q, zs, hq, rfl, HR⟩ := hrel
    obtain ⟨ta, tc, rfl, hst⟩ := HR.out.2.2.1.strs
    have htl := tx_len xs cs q
    clear hst HB
    by_cases hqn : q < cs.length
    · obtain ⟨g, rfl⟩ := crow_addr HR.out.1 (by omega)
      have hg : g < w1.heap.size := HR.out.2.1 g rfl
      obtain ⟨x, hx⟩ : ∃ x, cs.getD q g0 = x := ⟨_, rfl⟩
      have hzx : zs.getD q g0 = x := (HR.out.2.2.2.2.2.2.2 q (Nat.le_refl _) hqn).trans hx
      obtain ⟨m, hm, hm6⟩ := HF.out.at_ hqn
      rw [hx] at hm
      obtain ⟨⟨_, _, _, _, _, p5⟩, hbg, hfz⟩ := crow_at HR.out.1 hqn
      rw [hzx, hm] at p5
      have f5 := hfz (q * 6 + 5)
      have S1 := Lib.hid (crow_put (j := 5) (d := ⟨x.r, x.w, x.f, x.b, x.a, 0⟩) (u := .int .u16 0) HR.out.1 hqn (by omega) (by rw [hzx]; rfl))
      have T1 := Lib.hid (SRow.store (i := q * 6 + 5) HR.out.2.2.1 hg (.int .u16 0))
      have B1 := Lib.hid (HR.out.2.2.2.2.1.setCell (p := ⟨g, q * 6 + 5, none⟩) hbg (.int .u16 0))
      have HM := Lib.hid hm
      have HXC := Lib.hid hx
      have hsz := HR.out.2.2.2.2.2.1
      have hz1 : (zs.set q (⟨x.r, x.w, x.f, x.b, x.a, 0⟩ : Glyph)).getD q g0 = ⟨x.r, x.w, x.f, x.b, x.a, 0⟩ := set_getD (by rw [HR.out.2.2.2.1]; exact hqn)
      have HZ1 := Lib.hid hz1
      clear hm hx hzx hfz hz1
      have HE : Hid (leads xs m = ByteArray.empty → ∀ wz, CRow wz w.heap.size (.slice (some ⟨g, 0, none⟩) cs.length oc) (zs.set q ⟨x.r, x.w, x.f, x.b, x.a, 0⟩) → SRow wz w1.heap.size (.slice ta (tx xs cs q).length tc) (tx xs cs q) → Below w.heap.size w wz → w1.heap.size ≤ wz.heap.size →
          Hid (CaRel xs cs (q + 1) (zs.set q ⟨x.r, x.w, x.f, x.b, x.a, 0⟩) (.slice (some ⟨g, 0, none⟩) cs.length oc) (.slice ta (tx xs cs q).length tc) w w1 wz)) := fun h0 wz k1 k2 k3 k4 => by
        have h1 : tx xs cs (q + 1) = tx xs cs q := by
          rw [tx, HXC.out, HM.out, h0]
          unfold addT
          rw [if_pos (.inl rfl)]
        refine ca_next HR.out hqn ?_ k1 (by rw [h1]; exact k2) k3 k4
        rw [HXC.out]
        unfold renum
        rw [HM.out, h0]
        unfold number
        rw [if_pos rfl]
      by_cases h0 : 1 ≤ m
      · obtain ⟨p, rfl⟩ : ∃ p, m = p + 1 := ⟨m - 1, by omega⟩
        have hd0 : decide ((p : Int) + 1 < 1) = false := decide_eq_false (by omega)
        by_cases h1 : p + 1 ≤ xs.length
        · have hd1 : decide ((xs.length : Int) < (p : Int) + 1) = false := decide_eq_false (by omega)
          obtain ⟨bl, off, rfl, hbl, hc⟩ := HL.out.2.2 (by omega)
          have e1 := (B1.out.cell (p := ⟨bl, off + p, none⟩) hbl).trans (hc p (by omega))
          have hs : (xs.getD p ByteArray.empty).size ≤ 4611686018427387904 := by
            rw [getT (by omega)]
            exact HX.out _ (List.getElem_mem _)
          have hp : p < xs.length := by omega
          have e2 := (HR.out.2.2.2.2.1.cell (p := ⟨bl, off + p, none⟩) hbl).trans (hc p (by omega))
          obtain ⟨s, hse⟩ : ∃ s, xs.getD p ByteArray.empty = s := ⟨_, rfl⟩
          rw [hse] at e1 e2 hs
          have HSE := Lib.hid hse
          cases hm : may s with
          | false =>
            have HF0 := Lib.hid (leads_bad (t := xs) (n := p + 1) (by rw [Nat.add_sub_cancel, hse]; exact hm))
            have HMY := Lib.hid hm
            have hne : ¬ g = bl := fun e => by omega
            clear hc hse h0 h1 hm
            go_wp2_with fail
            refine (may_at (by omega) HMY.out).mono ?_
            rintro e w2 ⟨rfl, m2, hw2⟩
            have HN := HE.out HF0.out w2 (by rw [← hw2]; exact S1.out.draws m2) (by rw [← hw2]; exact T1.out.draws m2) (by rw [← hw2]; exact below_drewN B1.out m2) (by rw [← hw2]; simp [World.setCell]; omega)
            clear hw2
            go_wp2_with fail
            go_roundw
            case rel => exact ⟨q + 1, _, by omega, by go_num, HN⟩
            case measure => simp [intOf]; omega
          | true =>
            have HF1 := Lib.hid (leads_ok (t := xs) (n := p + 1) h0 h1 (by rw [Nat.add_sub_cancel, hse]; exact hm))
            rw [Nat.add_sub_cancel, hse] at HF1
            have HMY := Lib.hid hm
            have hse0 : Hid (s ≠ ByteArray.empty) := fun e => by rw [e, may_empty] at hm; cases hm
            have hne : ¬ g = bl := fun e => by omega
            clear hc hse h0 h1 hm
            go_wp2_with fail
            refine (may_at (by omega) HMY.out).mono ?_
            rintro e w2 ⟨rfl, m2, hw2⟩
            have e3 : w2.cell? ⟨bl, off + p, none⟩ = some (.string s) := by rw [← hw2]; exact e1
            have S2 : Hid (CRow w2 w.heap.size (.slice (some ⟨g, 0, none⟩) cs.length oc) (zs.set q ⟨x.r, x.w, x.f, x.b, x.a, 0⟩)) := by rw [← hw2]; exact S1.out.draws m2
            have T2 : Hid (SRow w2 w1.heap.size (.slice ta (tx xs cs q).length tc) (tx xs cs q)) := by rw [← hw2]; exact T1.out.draws m2
            have B2 : Hid (Below w.heap.size w w2) := by rw [← hw2]; exact below_drewN B1.out m2
            have hz2 : w1.heap.size ≤ w2.heap.size := by rw [← hw2]; simp [World.setCell]; omega
            clear hw2 e1 e2 p5 f5 hne
            rcases place_cases (tx xs cs q) s with ⟨r, hr, hpl⟩ | hpl
            · have HPL := Lib.hid hpl
              have hk6 : r ≤ 60000 := by omega
              have hd2 : decide ((r : Int) < 0) = false := decide_eq_false (by omega)
              have HTX : Hid (tx xs cs (q + 1) = tx xs cs q) := by
                show tx xs cs (q + 1) = tx xs cs q
                rw [tx, HXC.out, HM.out, HF1.out]
                unfold addT
                rw [if_pos (.inr (by omega))]
              clear hpl
              go_wp2_with fail
              refine (index_at (strs_of T2.out) HPL.out).mono ?_
              rintro e w3 ⟨rfl, m3, hw3⟩
              have S3 : Hid (CRow w3 w.heap.size (.slice (some ⟨g, 0, none⟩) cs.length oc) (zs.set q ⟨x.r, x.w, x.f, x.b, x.a, 0⟩)) := by rw [← hw3]; exact S2.out.draws m3
              have T3 : Hid (SRow w3 w1.heap.size (.slice ta (tx xs cs q).length tc) (tx xs cs q)) := by rw [← hw3]; exact T2.out.draws m3
              have B3 : Hid (Below w.heap.size w w3) := by rw [← hw3]; exact below_drewN B2.out m3
              have hz3 : w1.heap.size ≤ w3.heap.size := by rw [← hw3]; exact hz2
              clear hw3
              obtain ⟨⟨_, _, _, _, _, p5⟩, hbg3, hfz⟩ := crow_at S3.out hqn
              rw [HZ1.out] at p5
              have f5 := hfz (q * 6 + 5)
              have S4 := Lib.hid (crow_put (j := 5) (d := ⟨x.r, x.w, x.f, x.b, x.a, r + 1⟩) (u := .int .u16 (r + 1)) S3.out hqn (by omega) (by rw [HZ1.out]; rfl))
              rw [List.set_set] at S4
              have HN : Hid (CaRel xs cs (q + 1) (zs.set q ⟨x.r, x.w, x.f, x.b, x.a, r + 1⟩) (.slice (some ⟨g, 0, none⟩) cs.length oc) (.slice ta (tx xs cs q).length tc) w w1 _) := ca_next HR.out hqn (by
                rw [HTX.out, HXC.out]
                unfold renum number
                rw [HM.out, HF1.out, if_neg hse0.out, HPL.out]) S4.out (by rw [HTX.out]; exact SRow.store (i := q * 6 + 5) T3.out hg (.int .u16 (r + 1))) (B3.out.setCell (p := ⟨g, q * 6 + 5, none⟩) hbg3 _) (by simp [World.setCell]; omega)
              clear hfz S4
              go_wp2_with fail
              go_roundw
              case rel => exact ⟨q + 1, _, by omega, by go_num, HN⟩
              case measure => simp [intOf]; omega
            · have HPL := Lib.hid hpl
              have HTX : Hid (tx xs cs (q + 1) = tx xs cs q ++ [s]) := by
                show tx xs cs (q + 1) = tx xs cs q ++ [s]
                rw [tx, HXC.out, HM.out, HF1.out]
                unfold addT
                rw [if_neg (fun k => k.elim hse0.out (fun k2 => by omega))]
              obtain ⟨L, hL⟩ : ∃ L, tx xs cs q = L := ⟨_, rfl⟩
              rw [hL] at HTX HPL T2 htl ⊢
              have hk6 : L.length ≤ 60000 := by omega
              clear hpl hL
              go_wp2_with fail
              refine (index_at (strs_of T2.out) HPL.out).mono ?_
              rintro e w3 ⟨rfl, m3, hw3⟩
              have S3 : Hid (CRow w3 w.heap.size (.slice (some ⟨g, 0, none⟩) cs.length oc) (zs.set q ⟨x.r, x.w, x.f, x.b, x.a, 0⟩)) := by rw [← hw3]; exact S2.out.draws m3
              have T3 : Hid (SRow w3 w1.heap.size (.slice ta L.length tc) L) := by rw [← hw3]; exact T2.out.draws m3
              have B3 : Hid (Below w.heap.size w w3) := by rw [← hw3]; exact below_drewN B2.out m3
              have hz3 : w1.heap.size ≤ w3.heap.size := by rw [← hw3]; exact hz2
              have e4 : w3.cell? ⟨bl, off + p, none⟩ = some (.string s) := by rw [← hw3]; exact e3
              clear hw3 e3
              go_wp2_with (first
                | (at_builtin; refine app_one rfl _ _ rfl rfl (by exact T3.out.alloc _) rfl (by exact Own.cell (Own.new w3 9 #[.string s]) 0) (by omega) (by simp; omega) ?_; intro v5 w5 r5 b5; have S5 := Lib.hid (crow_under (S3.out.alloc (.cells #[.string s] 9)) hg b5); obtain ⟨⟨_, _, _, _, _, p5⟩, hbg5, hfz⟩ := crow_at S5.out hqn; rw [HZ1.out] at p5; have f5 := hfz (q * 6 + 5); clear hfz)
                | go_in)
              have S6 := Lib.hid (crow_put (j := 5) (d := ⟨x.r, x.w, x.f, x.b, x.a, L.length + 1⟩) (u := .int .u16 (L.length + 1)) S5.out hqn (by omega) (by rw [HZ1.out]; rfl))
              rw [List.set_set] at S6
              have B5 : Below w.heap.size w w5 := (B3.out.alloc B3.out.size _).trans (b5.mono hws)
              have hz5 : w1.heap.size ≤ w5.heap.size := Nat.le_trans (Nat.le_trans hz3 (by simp)) b5.size
              have HN : Hid (CaRel xs cs (q + 1) (zs.set q ⟨x.r, x.w, x.f, x.b, x.a, L.length + 1⟩) (.slice (some ⟨g, 0, none⟩) cs.length oc) v5 w w1 _) := ca_next HR.out hqn (by
                rw [HTX.out, HXC.out]
                unfold renum number
                rw [HM.out, HF1.out, if_neg hse0.out, place_new (by rw [HPL.out]; omega)]) S6.out (by rw [HTX.out]; exact SRow.store (i := q * 6 + 5) r5 hg (.int .u16 (L.length + 1))) (B5.setCell (p := ⟨g, q * 6 + 5, none⟩) hbg5 _) (by simp [World.setCell]; omega)
              clear S6 r5 b5 B5
              go_roundw
              case rel => exact ⟨q + 1, _, by omega, by go_num, HN⟩
              case measure => simp [intOf]; omega
        · have hd1 : decide ((xs.length : Int) < (p : Int) + 1) = true := decide_eq_true (by omega)
          have HN := HE.out (leads_out (by omega)) _ S1.out T1.out B1.out (by simp [World.setCell]; omega)
          clear h1 h0
          go_wp2_with fail
          go_roundw
          case rel => exact ⟨q + 1, _, by omega, by go_num, HN⟩
          case measure => simp [intOf]; omega
      · obtain rfl : m = 0 := by omega
        have HN := HE.out (leads_out (by omega)) _ S1.out T1.out B1.out (by simp [World.setCell]; omega)
        go_wp2_with fail
        go_roundw
        case rel => exact ⟨q + 1, _, by omega, by go_num, HN⟩
        case measure => simp [intOf]; omega
    · obtain rfl : q = cs.length := by omega
      have HF2 : Hid (zs = canon xs cs) := glyphs_ext (by rw [canon_len]; exact HR.out.2.2.2.1) fun j hj => by
        rw [HR.out.2.2.2.1] at hj
        rw [HR.out.2.2.2.2.2.2.1 j hj, canon_at2 xs hj]
      go_wp2_with fail
      go_ret2
      exact ⟨_, _, rfl, by rw [← HF2.out]; exact HR.out.1, HR.out.2.2.1.up hws, HR.out.2.2.2.2.1⟩
end Go.Proofs.Ytdnihlfnglkjiaa
