/- The document's cells with their links numbered anew. -/
import Derived.Test.YtdnihlfnglkjiaaLeads
namespace Go.Proofs.Ytdnihlfnglkjiaa
open Go.RowKit
attribute [local go_sem] alloc_drewN setCell_drewN


/-- Each cell's values are in their bounds. -/
def Fit (xs : List Glyph) : Prop := ∀ c ∈ xs, ∃ n : Nat, c.l = n ∧ n < 65536
theorem Fit.at_ {xs : List Glyph} (h : Fit xs) {k : Nat} (hk : k < xs.length) : ∃ n : Nat, (xs.getD k g0).l = n ∧ n < 65536 := by
  rw [List.getD_eq_getElem?_getD, List.getElem?_eq_getElem hk]
  exact h _ (List.getElem_mem hk)
def CanonPost (t : List ByteArray) (cs : List Glyph) (w : World) (e : Ending) (w' : World) : Prop := ∃ v1 v2, e = .returned (.tuple #[v1, v2]) ∧ CRow w' w.heap.size v1 (canon t cs) ∧ SRow w' w.heap.size v2 (tx t cs cs.length) ∧ Below w.heap.size w w'
/-- The first loop: the texts so far. -/
def RcRel (w : World) (t : List ByteArray) (cs : List Glyph) (k : Nat) (v : Value) (wr : World) : Prop := SRow wr w.heap.size v (tx t cs k) ∧ Below w.heap.size w wr
theorem CRow.top {w : World} {base g n c : Nat} {xs : List Glyph} (h : CRow w base (.slice (some ⟨g, 0, none⟩) n c) xs) {b : Nat} (hb : g = b) : CRow w b (.slice (some ⟨g, 0, none⟩) n c) xs := by
  subst hb
  refine ⟨h.1, ?_⟩
  rcases h.2 with ⟨h1, _⟩ | ⟨g', cap, cur, h1, h2, h3⟩
  · cases h1
  · injection h1 with h0 h1 h8
    injection h0 with h0
    injection h0 with h0
    subst h0 h8
    exact .inr ⟨g, c, cur, by rw [h1], Nat.le_refl _, h3⟩
/-- The second loop: the cells so far, in a row made in the world w0. -/
def RzRel (t L : List ByteArray) (cs : List Glyph) (q : Nat) (zs : List Glyph) (w0 wr : World) : Prop :=
  CRow wr w0.heap.size (.slice (some ⟨w0.heap.size, 0, none⟩) cs.length cs.length) zs ∧ zs.length = cs.length ∧ Below w0.heap.size w0 wr ∧ ∀ j, j < q → zs.getD j g0 = renum t L (cs.getD j g0)
theorem rz_next {t L : List ByteArray} {cs zs : List Glyph} {q : Nat} {w0 wr : World} (h : RzRel t L cs q zs w0 wr) (hq : q < cs.length) {d : Glyph} (hd : renum t L (cs.getD q g0) = d) (z : World) :
    RzRel t L cs (q + 1) (zs.set q d) w0 z ↔ CRow z w0.heap.size (.slice (some ⟨w0.heap.size, 0, none⟩) cs.length cs.length) (zs.set q d) ∧ Below w0.heap.size w0 z := by
  constructor
  · exact fun k => ⟨k.1, k.2.2.1⟩
  · rintro ⟨k1, k2⟩
    refine ⟨k1, by rw [List.length_set]; exact h.2.1, k2, fun j hj => ?_⟩
    by_cases hjq : j = q
    · subst hjq
      rw [set_getD (by rw [h.2.1]; exact hq), hd]
    · rw [List.getD_eq_getElem?_getD, List.getElem?_set_ne (by omega), ← List.getD_eq_getElem?_getD]
      exact h.2.2.2 j (by omega)
theorem tx_place {t : List ByteArray} {cs : List Glyph} {q : Nat} (hq : q < cs.length) {s : ByteArray} (hs : leads t (cs.getD q g0).l = s) (h0 : s ≠ ByteArray.empty) : 0 ≤ place (tx t cs cs.length) s := by
  obtain ⟨m, hm⟩ := tx_app t cs (q + 1) (cs.length - (q + 1))
  rw [show q + 1 + (cs.length - (q + 1)) = cs.length from by omega] at hm
  have key : 0 ≤ place (tx t cs (q + 1)) s := by
    rw [tx, hs]
    exact addT_place _ h0
  rw [hm, place_app key]
  exact key
theorem GAt.below {w w' : World} {b o : Nat} {c : Glyph} (h : GAt w b o c) (hb : b < w.heap.size) (k : Below w.heap.size w w') : GAt w' b o c := h.same fun p hp => k.cell (by omega)
set_option maxHeartbeats 1000000 in
theorem ref_canon_any (a b : Option Addr) (n c k d : Nat) (cs : List Glyph) (xs : List ByteArray) (w : World) (hc : Cells w a n cs) (hl : Strs w b k xs) (hx : ∀ x ∈ xs, x.size ≤ 4611686018427387904) (hf : Fit cs) (hn : n ≤ 3000) : Calls Try.prog 20 #[.slice a n c, .slice b k d] w (CanonPost xs cs w) := by
  obtain rfl := hc.1
  obtain rfl := hl.1
  have HC := Lib.hid hc
  have HL := Lib.hid hl
  have HX := Lib.hid hx
  have HF := Lib.hid hf
  clear hc hl hx hf
  go_enter Try.func20, Try.ntmps20
  go_wp2_with fail
  have HB : Hid (RcRel w xs cs 0 (.slice (some ⟨w.heap.size, 0, none⟩) 0 0) (w.alloc (.cells #[] 9))) := ⟨empty_row w, (Below.refl _ _).alloc (Nat.le_refl _) _⟩
  go_loopw [6, 7] (fun v i wr => ∃ (q : Nat), q ≤ cs.length ∧ i = .int .i64 q ∧ Hid (RcRel w xs cs q v wr)) (fun _ i _ => cs.length - (intOf i).toNat)
  case atStart => exact ⟨0, by omega, rfl, HB⟩
  case round =>
    obtain ⟨q, hq, rfl, HR⟩ := hrel
    obtain ⟨ta, tc, rfl, hst⟩ := HR.out.1.strs
    have HST := Lib.hid hst
    have htl := tx_len xs cs q
    clear hst HB
    by_cases hqn : q < cs.length
    · obtain ⟨bl, off, rfl, hbl, hcc⟩ := HC.out.2.2 (by omega)
      have e5 := (HR.out.2.cell (p := ⟨bl, off + q * 6 + 5, none⟩) hbl).trans (hcc q hqn).2.2.2.2.2
      obtain ⟨m, hm, hm6⟩ := HF.out.at_ hqn
      rw [hm] at e5
      have HM := Lib.hid hm
      obtain ⟨s, hs⟩ : ∃ s, leads xs m = s := ⟨_, rfl⟩
      have HS := Lib.hid hs
      have HTX : Hid (tx xs cs (q + 1) = addT (tx xs cs q) s) := by rw [← hs, ← hm]; rfl
      clear hcc hm hs
      go_wp2_with fail
      refine (leads_at (HL.out.below HR.out.2) HX.out hm6 HS.out).mono ?_
      rintro e w1 ⟨rfl, m1, rfl⟩
      have HST1 := Lib.hid (HST.out.below (below_drewN (Below.refl _ _) m1))
      have HR1 : Hid (RcRel w xs cs q (.slice ta (tx xs cs q).length tc) (wr.drewN m1)) := ⟨HR.out.1.draws _, below_drewN HR.out.2 _⟩
      by_cases h0 : s = ByteArray.empty
      · subst h0
        have HN : Hid (RcRel w xs cs (q + 1) (.slice ta (tx xs cs q).length tc) (wr.drewN m1)) := by
          have := HTX.out
          unfold addT at this
          rw [if_pos (.inl rfl)] at this
          exact ⟨by rw [this]; exact HR1.out.1, HR1.out.2⟩
        go_wp2_with fail
        go_roundw
        case rel => exact ⟨q + 1, by omega, by go_num, HN⟩
        case measure => simp [intOf]; omega
      · have hx2 := txt_empty h0
        have hx1 := txt_ne h0
        have H0 := Lib.hid h0
        clear h0
        rcases place_cases (tx xs cs q) s with ⟨p, hp, hpl⟩ | hpl
        · have HPL := Lib.hid hpl
          clear hpl
          have hd : decide ((p : Int) < 0) = false := decide_eq_false (by omega)
          have HTX2 : Hid (tx xs cs (q + 1) = tx xs cs q) := by
            have := HTX.out
            unfold addT at this
            rw [if_pos (.inr (by have := HPL.out; omega))] at this
            exact this
          go_wp2_with fail
          refine (place_at2 HST1.out HPL.out).mono ?_
          rintro e w2 ⟨rfl, m2, rfl⟩
          go_wp2_with fail
          go_roundw
          case rel => exact ⟨q + 1, by omega, by go_num, ⟨by rw [HTX2.out]; exact HR.out.1.draws _, below_drewN HR.out.2 _⟩⟩
          case measure => simp [intOf]; omega
        · have HPL := Lib.hid hpl
          clear hpl
          have HN : Hid (tx xs cs (q + 1) = tx xs cs q ++ [s]) := by
            have := HTX.out
            unfold addT at this
            rw [if_neg (fun k => k.elim H0.out (fun k2 => by have := HPL.out; omega))] at this
            exact this
          go_wp2_with fail
          refine (place_at2 HST1.out HPL.out).mono ?_
          rintro e w2 ⟨rfl, m2, rfl⟩
          go_wp2_with (first
            | (at_builtin; refine app_one rfl _ _ rfl rfl (by exact (HR1.out.1.draws m2).alloc _) rfl (by exact Own.cell (Own.new (wr.drewN (m1 + m2)) 9 #[.string s]) 0) (by omega) (by have := HR.out.2.size; simp; omega) ?_; intro v1 w3 r1 bl1)
            | go_in)
          have HNN : Hid (RcRel w xs cs (q + 1) v1 w3) := ⟨by rw [HN.out]; exact r1, ((below_drewN HR.out.2 (m1 + m2)).alloc (by have := HR.out.2.size; simp; omega) _).trans bl1⟩
          clear r1 bl1
          go_roundw
          case rel => exact ⟨q + 1, by omega, by go_num, HNN⟩
          case measure => simp [intOf]; omega
    · obtain rfl : q = cs.length := by omega
      have HT := Lib.hid HST
      obtain ⟨L, hL⟩ : ∃ L, tx xs cs cs.length = L := ⟨_, rfl⟩
      have HLL := Lib.hid hL
      have HR2 : Hid (SRow wr w.heap.size (.slice ta L.length tc) L ∧ Below w.heap.size w wr) := by rw [← hL]; exact HR.out
      rw [hL] at HST htl ⊢
      have HC2 := Lib.hid (HC.out.below HR2.out.2)
      clear hL
      go_wp2_with (first
        | (at_make; refine wpList_make_full _ rfl _ _ 41 rfl w.heap.size 51 _ _ 6 Try.underlying41 ginfoE gzeroE (by kernel_rfl) .i64 .i64 _ _ cs.length rfl rfl rfl rfl (by rw [gbytes]; omega) (by unfold maxLen; omega) HR2.out.2.size ?_; intro w1 o1 g1)
        | go_in)
      obtain ⟨w2, rfl⟩ : ∃ w2, w2 = wr := ⟨_, rfl⟩
      have hb1 := gbelow_none g1
      have HZ : Hid (RzRel xs L cs 0 (List.replicate cs.length g0) w2 w1) := ⟨(gmake_row o1).top rfl, by simp, hb1, fun j hj => absurd hj (by omega)⟩
      have HCB : Hid (Cells w2 a cs.length cs) := HC2.out
      clear o1 g1 hb1
      go_loopw [44] (fun i wz => ∃ (q : Nat) (zs : List Glyph), q ≤ cs.length ∧ i = .int .i64 q ∧ Hid (RzRel xs L cs q zs w2 wz)) (fun i _ => cs.length - (intOf i).toNat)
      case atStart => exact ⟨0, _, by omega, rfl, HZ⟩
      case round =>
        obtain ⟨q, zs, hq, rfl, HQ⟩ := hrel
        clear HZ
        by_cases hqn : q < cs.length
        · obtain ⟨bl, off, rfl, hbl, hcc⟩ := HC2.out.2.2 (by omega)
          obtain ⟨x, hx⟩ : ∃ x, cs.getD q g0 = x := ⟨_, rfl⟩
          have hgx := hcc q hqn
          rw [hx] at hgx
          have HGX := Lib.hid (hgx.below hbl HQ.out.2.2.1)
          obtain ⟨e0, e1, e2, e3, e4, e5⟩ := HGX.out
          obtain ⟨m, hm, hm6⟩ := HF.out.at_ hqn
          rw [hx] at hm
          rw [hm] at e5
          have HM := Lib.hid hm
          obtain ⟨s, hs⟩ : ∃ s, leads xs m = s := ⟨_, rfl⟩
          have HS := Lib.hid hs
          obtain ⟨⟨p0, p1, p2, p3, p4, p5⟩, _, hfz⟩ := crow_at HQ.out.1 hqn
          have f0 := hfz (q * 6)
          have f1 := hfz (q * 6 + 1)
          have f2 := hfz (q * 6 + 2)
          have f3 := hfz (q * 6 + 3)
          have f4 := hfz (q * 6 + 4)
          have f5 := hfz (q * 6 + 5)
          have hs1 := crow_set x HQ.out.1 hqn
          rw [hm] at hs1
          have hx0 : (zs.set q x).getD q g0 = x := set_getD (by rw [HQ.out.2.1]; exact hqn)
          have HS2 := Lib.hid (crow_put (j := 5) (d := ⟨x.r, x.w, x.f, x.b, x.a, 0⟩) (u := .int .u16 0) hs1 hqn (by omega) (by rw [hx0]; rfl))
          have hb1 := below_set6 HQ.out.2.2.1 (Nat.le_refl w2.heap.size) (q * 6) (q * 6 + 1) (q * 6 + 2) (q * 6 + 3) (q * 6 + 4) (q * 6 + 5) (.int .i32 x.r) (.int .u8 x.w) (.int .u32 x.f) (.int .u32 x.b) (.int .u8 x.a) (.int .u16 m)
          have HB2 := Lib.hid (hb1.setCell (p := ⟨w2.heap.size, q * 6 + 5, none⟩) (Nat.le_refl _) (.int .u16 0))
          have HBW := Lib.hid (HR2.out.2.trans (HB2.out.mono HR2.out.2.size))
          have HX0 := Lib.hid hx
          rw [List.set_set] at HS2
          clear hcc hgx hx hm hs hfz hs1 hb1 hx0
          go_wp2_with fail
          refine (leads_at (HL.out.below HBW.out) HX.out hm6 HS.out).mono ?_
          rintro e w3 ⟨rfl, m3, hw3⟩
          have S3 : Hid (CRow w3 w2.heap.size (.slice (some ⟨w2.heap.size, 0, none⟩) cs.length cs.length) (zs.set q ⟨x.r, x.w, x.f, x.b, x.a, 0⟩)) := by rw [← hw3]; exact HS2.out.draws m3
          have B3 : Hid (Below w2.heap.size w2 w3) := by rw [← hw3]; exact below_drewN HB2.out m3
          clear hw3 HS2 HB2 HBW f0 f1 f2 f3 f4 f5 e0 e1 e2 e3 e4 e5 p0 p1 p2 p3 p4 p5
          by_cases h0 : s = ByteArray.empty
          · subst h0
            have HN : Hid (RzRel xs L cs (q + 1) (zs.set q ⟨x.r, x.w, x.f, x.b, x.a, 0⟩) w2 w3) := (rz_next HQ.out hqn (by
              rw [HX0.out]
              unfold renum
              rw [HM.out, HS.out]
              rfl) _).2 ⟨S3.out, B3.out⟩
            go_wp2_with fail
            go_roundw
            case rel => exact ⟨q + 1, _, by omega, by go_num, HN⟩
            case measure => simp [intOf]; omega
          · have hx2 := txt_empty h0
            have hx1 := txt_ne h0
            have H0 := Lib.hid h0
            clear h0
            obtain ⟨p, hp⟩ : ∃ p : Nat, place L s = p := by
              have h1 : 0 ≤ place L s := by rw [← HLL.out]; exact tx_place hqn (by rw [HX0.out, HM.out, HS.out]) H0.out
              exact ⟨(place L s).toNat, by omega⟩
            have hpl := place_le L s
            have hLl := tx_len xs cs cs.length
            rw [HLL.out] at hLl
            have hp6 : p ≤ 60000 := by omega
            have HP := Lib.hid hp
            have hx0 : (zs.set q (⟨x.r, x.w, x.f, x.b, x.a, 0⟩ : Glyph)).getD q g0 = ⟨x.r, x.w, x.f, x.b, x.a, 0⟩ := set_getD (by rw [HQ.out.2.1]; exact hqn)
            have HLW := Lib.hid (strs_of (SRow.below HR2.out.1 B3.out))
            clear hp hpl hLl
            go_wp2_with fail
            refine (place_at2 HLW.out HP.out).mono ?_
            rintro e w4 ⟨rfl, m4, hw4⟩
            have S4 : Hid (CRow w4 w2.heap.size (.slice (some ⟨w2.heap.size, 0, none⟩) cs.length cs.length) (zs.set q ⟨x.r, x.w, x.f, x.b, x.a, 0⟩)) := by rw [← hw4]; exact S3.out.draws m4
            have B4 : Hid (Below w2.heap.size w2 w4) := by rw [← hw4]; exact below_drewN B3.out m4
            clear hw4
            obtain ⟨⟨_, _, _, _, _, p5⟩, _, hfz⟩ := crow_at S4.out hqn
            have f5 := hfz (q * 6 + 5)
            have S5 := Lib.hid (crow_put (j := 5) (d := ⟨x.r, x.w, x.f, x.b, x.a, p + 1⟩) (u := .int .u16 (p + 1)) S4.out hqn (by omega) (by rw [hx0]; rfl))
            rw [List.set_set] at S5
            rw [hx0] at p5
            have HN : Hid (RzRel xs L cs (q + 1) (zs.set q ⟨x.r, x.w, x.f, x.b, x.a, p + 1⟩) w2 _) := (rz_next HQ.out hqn (by
              rw [HX0.out]
              unfold renum number
              rw [HM.out, HS.out, if_neg H0.out, HP.out]) _).2 ⟨S5.out, B4.out.setCell (p := ⟨w2.heap.size, q * 6 + 5, none⟩) (Nat.le_refl _) _⟩
            clear hx0 hfz S5 S3 B3 S4 B4
            go_wp2_with fail
            go_roundw
            case rel => exact ⟨q + 1, _, by omega, by go_num, HN⟩
            case measure => simp [intOf]; omega
        · obtain rfl : q = cs.length := by omega
          have HF2 : Hid (zs = canon xs cs) := glyphs_ext (by rw [canon_len]; exact HQ.out.2.1) fun j hj => by
            rw [HQ.out.2.1] at hj
            rw [HQ.out.2.2.2 j hj, canon_at xs hj, HLL.out]
          go_wp2_with fail
          go_ret2
          exact ⟨_, _, rfl, by rw [← HF2.out]; exact HQ.out.1.up HR2.out.2.size, by rw [HLL.out]; exact SRow.below HR2.out.1 HQ.out.2.2.1, HR2.out.2.trans (HQ.out.2.2.1.mono HR2.out.2.size)⟩
end Go.Proofs.Ytdnihlfnglkjiaa
