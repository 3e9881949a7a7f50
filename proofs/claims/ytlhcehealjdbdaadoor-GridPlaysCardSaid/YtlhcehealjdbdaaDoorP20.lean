/- Part 20 of the texts that GridPlays stands on, one behind the other. -/
import Derived.Test.YtlhcehealjdbdaaDoorP18
import Derived.Test.YtlhcehealjdbdaaDoorP19
import Derived.Test.YtlhcehealjdbdaaDoorP16
import Derived.Test.YtlhcehealjdbdaaDoorP15
import Derived.Deep.DeepCutAuto
import Derived.Test.YtlhcehealjdbdaaDoorRows
import Derived.Test.YtlhcehealjdbdaaDoorP2
import Derived.ProofKit
import Derived.LaidMore
import Derived.OpenShut
import Derived.MakeChecks
import Derived.Stop.Joined
import Derived.LaidOnce
/- Every row of calls, from blanks on, leaves what the document says: the law's walk. -/
namespace Go.Proofs.YtlhcehealjdbdaaDoor
open Go.RowKit
set_option linter.unusedSimpArgs false
set_option linter.unusedVariables false
attribute [local go_sem] alloc_drewN setCell_drewN


/-- A grid answered, its cells in new or old memory. -/
def GX (c r : Int) (xs : List Glyph) (w : World) (e : Ending) (w' : World) : Prop := ∃ v, e = .returned (.agg #[.int .i64 c, .int .i64 r, v]) ∧ CRow w' 0 v xs ∧ Below w.heap.size w w'
theorem GG.gx {c r : Int} {xs : List Glyph} {w w' : World} {e : Ending} (h : GG c r xs w e w') : GX c r xs w e w' := by
  obtain ⟨v, h1, h2, h3⟩ := h
  exact ⟨v, h1, h2.up (Nat.zero_le _), h3⟩
theorem row_fit {w : World} {a : Option Addr} {cp : Nat} {xs : List Glyph} (h : CRow w 0 (.slice a xs.length cp) xs) : xs.length ≤ cp := by
  rcases Nat.eq_zero_or_pos xs.length with q | q
  · omega
  · exact crow_cap h q
theorem gdo_any (o : Op9) (c r : Int) (a : Option Addr) (cp : Nat) (xs : List Glyph) (w : World) (h : CRow w 0 (.slice a xs.length cp) xs) (ht : Tabs w) :
    Calls Tryd.prog 42 #[.agg #[.int .i64 c, .int .i64 r, .slice a xs.length cp], .agg #[.int .i64 o.k, .int .i64 o.x, .int .i64 o.y, .int .i64 o.n, .int .i32 o.r, .int .u32 o.f, .int .u32 o.b, .int .u8 o.a, .int .u16 o.l]] w (GX (pC o c r xs) (pR o c r xs) (pM o c r xs) w) := by
  by_cases hk : 0 ≤ o.k ∧ o.k ≤ 5
  · have e1 : pC o c r xs = doC o c r xs := if_pos hk
    have e2 : pR o c r xs = doR o c r xs := if_pos hk
    have e3 : pM o c r xs = doM o c r xs := if_pos hk
    rw [e1, e2, e3]
    exact (gdo_all o hk c r a xs.length cp xs w (cells_of h) (row_fit h) ht).mono fun e w' k => k.gx
  · have e1 : pC o c r xs = c := if_neg hk
    have e2 : pR o c r xs = r := if_neg hk
    have e3 : pM o c r xs = xs := if_neg hk
    rw [e1, e2, e3]
    exact (gdo_else c r o.k o.x o.y o.n o.r o.f o.b o.a o.l (by omega) a xs.length cp xs w (cells_of h) (row_fit h) ht).mono fun e w' k => ⟨_, k.1, h.below k.2, k.2⟩
theorem want_any (o : Op9) (c r : Int) (a : Option Addr) (n cp : Nat) (xs : List Glyph) (w : World) (h : CRow w 0 (.slice a n cp) xs) :
    Calls Tryd.prog 43 #[.agg #[.int .i64 c, .int .i64 r, .slice a n cp], .agg #[.int .i64 o.k, .int .i64 o.x, .int .i64 o.y, .int .i64 o.n, .int .i32 o.r, .int .u32 o.f, .int .u32 o.b, .int .u8 o.a, .int .u16 o.l]] w (GX (pC o c r xs) (pR o c r xs) (pM o c r xs) w) := by
  obtain rfl := (cells_of h).1
  by_cases hk : 0 ≤ o.k ∧ o.k ≤ 5
  · have e1 : pC o c r xs = doC o c r xs := if_pos hk
    have e2 : pR o c r xs = doR o c r xs := if_pos hk
    have e3 : pM o c r xs = doM o c r xs := if_pos hk
    rw [e1, e2, e3]
    exact (want_all o hk c r a xs.length cp xs w (cells_of h) (row_fit h)).mono fun e w' k => k.gx
  · have e1 : pC o c r xs = c := if_neg hk
    have e2 : pR o c r xs = r := if_neg hk
    have e3 : pM o c r xs = xs := if_neg hk
    rw [e1, e2, e3]
    exact (want_else c r o.k o.x o.y o.n o.r o.f o.b o.a o.l (by omega) a xs.length cp xs w (cells_of h) (row_fit h)).mono fun e w' k => ⟨_, k.1, h.below k.2, k.2⟩
def PlRel (w : World) (hg hm : Nat) (wr : World) : Prop :=
  ∃ (C R : Nat) (X : List Glyph) (la ma : Option Addr) (lc mc : Nat), GridOk C R X ∧ Own wr hg 49 #[.int .i64 C, .int .i64 R, .slice la X.length lc] ∧ Own wr hm 49 #[.int .i64 C, .int .i64 R, .slice ma X.length mc] ∧ CRow wr 0 (.slice la X.length lc) X ∧ CRow wr 0 (.slice ma X.length mc) X ∧ Below w.heap.size w wr
theorem PlRel.below {w w1 w2 : World} {hg hm : Nat} (h : PlRel w hg hm w1) (k : Below w1.heap.size w1 w2) : PlRel w hg hm w2 := by
  obtain ⟨C, R, X, la, ma, lc, mc, h1, h2, h3, h4, h5, h6⟩ := h
  exact ⟨C, R, X, la, ma, lc, mc, h1, h2.below k h2.lt, h3.below k h3.lt, h4.below k, h5.below k, h6.trans (k.mono h6.size)⟩
set_option maxRecDepth 10000 in
set_option maxHeartbeats 4000000 in
theorem gridplays_walk (u v : Int) (hu : 0 ≤ u ∧ u ≤ 255) (hv : 0 ≤ v ∧ v ≤ 255) (a : Option Addr) (n c : Nat) (os : Nat → Op9) (w : World) (hl : Ops9 w a n os) (ht : Tabs w) : Calls Tryd.prog 12 #[.int .u8 u, .int .u8 v, .slice a n c] w (RVal (.bool true) w) := by
  have HL := Lib.hid hl
  have HT := Lib.hid ht
  have hn63 := hl.1
  clear hl ht
  obtain ⟨N, hN⟩ : ∃ N : Nat, 1 + u % 80 = N := ⟨(1 + u % 80).toNat, by omega⟩
  obtain ⟨K, hK⟩ : ∃ K : Nat, 1 + v % 24 = K := ⟨(1 + v % 24).toNat, by omega⟩
  have hN1 : 1 ≤ N := by omega
  have hN8 : N ≤ 80 := by omega
  have hK1 : 1 ≤ K := by omega
  have hK24 : K ≤ 24 := by omega
  have hu0 := hu.1
  have hu1 := hu.2
  have hv0 := hv.1
  have hv1 := hv.2
  go_enter Tryd.func12, Tryd.ntmps12
  go_wp2_with fail
  refine (new_any N K w).mono ?_
  intro e w1 hp
  unfold NewPost at hp
  rw [if_pos (fits_iff.2 (by omega))] at hp
  obtain ⟨v1, m, rfl, hm, r1, b1⟩ := hp
  have hm2 : m = N * K := by have := Int.natCast_mul N K; omega
  subst hm2
  have HG0 : Hid (GridOk N K (List.replicate (N * K) (blank 0))) := rep_grid hN1 hN8 hK1 hK24
  obtain ⟨X, hX⟩ : ∃ X, List.replicate (N * K) (blank 0) = X := ⟨_, rfl⟩
  rw [hX] at r1 HG0
  obtain ⟨la, lc, rfl, _⟩ := r1.cells
  have B1 : Hid (Below w.heap.size w w1) := b1
  have R1 : Hid (CRow w1 0 (.slice la X.length lc) X) := r1.up (Nat.zero_le _)
  have hb1920 := mul_bound hN8 hK24
  have hXl : X.length ≤ 1920 := by rw [HG0.out.2.2.2.2.1]; exact hb1920
  clear hm r1 b1 hX hb1920
  clear hN hK
  go_upto_region 2 with fail
  have G2 : Hid (Own (w1.alloc (.cells #[.int .i64 N, .int .i64 K, .slice la X.length lc] 49)) w1.heap.size 49 #[.int .i64 N, .int .i64 K, .slice la X.length lc]) := Own.new w1 49 _
  have B2 : Hid (Below w.heap.size w (w1.alloc (.cells #[.int .i64 N, .int .i64 K, .slice la X.length lc] 49))) := B1.out.alloc B1.out.size _
  have R2' := Lib.hid (R1.out.alloc (.cells #[.int .i64 N, .int .i64 K, .slice la X.length lc] 49))
  have hwg : w.heap.size ≤ w1.heap.size := B1.out.size
  generalize w1.alloc (.cells #[.int .i64 N, .int .i64 K, .slice la X.length lc] 49) = w2 at G2 B2 R2' ⊢
  generalize w1.heap.size = hg at G2 hwg ⊢
  go_wp2_with fail
  refine (gfixed_any _ (HT.out.below B2.out)).mono ?_
  rintro e w3 ⟨rfl, b3⟩
  have G3 := Lib.hid (G2.out.below b3 G2.out.lt)
  have B3 : Hid (Below w.heap.size w w3) := B2.out.trans (b3.mono B2.out.size)
  have R3 := Lib.hid (R2'.out.below b3)
  clear b3 G2 R2' B1 R1 B2
  have g0 := Own.cell G3.out 0
  have g1 := Own.cell G3.out 1
  have g2 := Own.cell G3.out 2
  simp only [List.getElem?_toArray, List.getElem?_cons_zero, List.getElem?_cons_succ] at g0 g1 g2
  go_wp2_with fail
  refine (ref_copy_any N K la X.length lc X w3 (cells_of R3.out) (by omega)).mono ?_
  rintro e w4 ⟨v4, rfl, r4, b4⟩
  obtain ⟨ma, mc, rfl, _⟩ := r4.cells
  have G4 := Lib.hid (G3.out.below b4 G3.out.lt)
  have B4 : Hid (Below w.heap.size w w4) := B3.out.trans (b4.mono B3.out.size)
  have R4 := Lib.hid (R3.out.below b4)
  have Q4 : Hid (CRow w4 0 (.slice ma X.length mc) X) := r4.up (Nat.zero_le _)
  have hgm : hg < w4.heap.size := G4.out.lt
  clear b4 r4 g0 g1 g2
  go_upto_region 5 with fail
  have HL0 : Hid (PlRel w hg w4.heap.size (w4.alloc (.cells #[.int .i64 N, .int .i64 K, .slice ma X.length mc] 49))) := ⟨N, K, X, la, ma, lc, mc, HG0.out, G4.out.alloc _, Own.new w4 49 _, R4.out.alloc _, Q4.out.alloc _, B4.out.alloc B4.out.size _⟩
  generalize w4.alloc (.cells #[.int .i64 N, .int .i64 K, .slice ma X.length mc] 49) = w5 at HL0 ⊢
  generalize w4.heap.size = hm at HL0 hgm ⊢
  clear G3 B3 R3 G4 B4 R4 Q4 HG0 hXl
  go_wp2_with fail
  go_loopw [35] (fun v wr => ∃ q : Nat, q ≤ n ∧ v = .int .i64 q ∧ Hid (PlRel w hg hm wr)) (fun v _ => n - (intOf v).toNat)
  case atStart => exact ⟨0, by omega, rfl, HL0⟩
  case round =>
    obtain ⟨q, hq1, rfl, HR⟩ := hrel
    rename World => wr
    clear HL0
    by_cases hq : q < n
    · have hdq : decide (q < n) = true := decide_eq_true hq
      have HQ : Hid (q < n) := hq
      have hi0 : (0 : Int) ≤ (q : Int) := by omega
      have hi1 : (q : Int) < (n : Int) := by omega
      have hbr : Below w.heap.size w wr := by obtain ⟨_, _, _, _, _, _, _, _, _, _, _, _, k⟩ := HR.out; exact k
      obtain ⟨bl, off, rfl, hbl, hcc⟩ := (HL.out.below hbr).2 (by omega)
      obtain ⟨o, ho⟩ : ∃ o, os q = o := ⟨_, rfl⟩
      have HO := Lib.hid (hcc q hq)
      rw [ho] at HO
      clear ho hcc hbr
      obtain ⟨e0, e1, e2, e3, e4, e5, e6, e7, e8⟩ := HO.out
      have hown := Own.new wr 68 #[.int .i64 0, .int .i64 0, .int .i64 0, .int .i64 0, .int .i32 0, .int .u32 0, .int .u32 0, .int .u8 0, .int .u16 0]
      go_upto_region 8 with (first
        | (refine ostore9_list rfl _ _ rfl (d := o) rfl rfl hown ?_; intro w4 o4 g4; have hba := below_grown ((Below.refl wr.heap.size wr).alloc (Nat.le_refl _) _) g4 (Nat.le_refl _) (by simp); have X4 : Hid (PlRel w hg hm w4) := HR.out.below hba; have P4 : Hid (Own w4 wr.heap.size 68 #[.int .i64 o.k, .int .i64 o.x, .int .i64 o.y, .int .i64 o.n, .int .i32 o.r, .int .u32 o.f, .int .u32 o.b, .int .u8 o.a, .int .u16 o.l]) := o4; clear o4 g4 hba)
        | go_in)
      (try simp only [Act.put])
      clear e0 e1 e2 e3 e4 e5 e6 e7 e8 hown HO HR
      generalize wr.heap.size = ho at P4 ⊢
      obtain ⟨C, R, X, la, ma, lc, mc, hX1, hX2, hX3, hX4, hX5, hX6⟩ := X4.out
      have HGO := Lib.hid hX1
      have ZG4 := Lib.hid hX2
      have ZM4 := Lib.hid hX3
      have RX4 := Lib.hid hX4
      have RY4 := Lib.hid hX5
      have B4 := Lib.hid hX6
      clear hX1 hX2 hX3 hX4 hX5 hX6 X4
      cases h60 : decide ((60 : Int) < q) with
      | true =>
        go_wp2_with fail
        go_ret
        exact ⟨rfl, B4.out⟩
      | false =>
        have g0 := Own.cell ZG4.out 0
        have g1 := Own.cell ZG4.out 1
        have g2 := Own.cell ZG4.out 2
        simp only [List.getElem?_toArray, List.getElem?_cons_zero, List.getElem?_cons_succ] at g0 g1 g2
        have e0 := Own.cell P4.out 0
        have e1 := Own.cell P4.out 1
        have e2 := Own.cell P4.out 2
        have e3 := Own.cell P4.out 3
        have e4 := Own.cell P4.out 4
        have e5 := Own.cell P4.out 5
        have e6 := Own.cell P4.out 6
        have e7 := Own.cell P4.out 7
        have e8 := Own.cell P4.out 8
        simp only [List.getElem?_toArray, List.getElem?_cons_zero, List.getElem?_cons_succ] at e0 e1 e2 e3 e4 e5 e6 e7 e8
        go_wp2_with fail
        have HCALL := Lib.hid (gdo_any o C R la lc X w4 RX4.out (HT.out.below B4.out))
        refine HCALL.out.mono ?_
        clear HCALL
        have hok := pM_ok o HGO.out
        obtain ⟨C2, hc2⟩ : ∃ C2, pC o C R X = C2 := ⟨_, rfl⟩
        obtain ⟨R2, hr2⟩ : ∃ R2, pR o C R X = R2 := ⟨_, rfl⟩
        obtain ⟨M, hM⟩ : ∃ M, pM o C R X = M := ⟨_, rfl⟩
        rw [hc2, hr2, hM] at hok ⊢
        have HPC := Lib.hid hc2
        have HPR := Lib.hid hr2
        have HPM := Lib.hid hM
        have HOK := Lib.hid hok
        clear hc2 hr2 hM hok
        rintro e w5 ⟨v5, rfl, r5, b5⟩
        obtain ⟨ha, hc, rfl, _⟩ := r5.cells
        have ZG5 := Lib.hid (ZG4.out.below b5 ZG4.out.lt)
        have ZM5 := Lib.hid (ZM4.out.below b5 ZM4.out.lt)
        have ZO5 := Lib.hid (P4.out.below b5 P4.out.lt)
        have RX5 := Lib.hid (RX4.out.below b5)
        have RY5 := Lib.hid (RY4.out.below b5)
        have RH5 := Lib.hid r5
        have B5 : Hid (Below w.heap.size w w5) := B4.out.trans (b5.mono B4.out.size)
        clear r5 b5 g0 g1 g2 e0 e1 e2 e3 e4 e5 e6 e7 e8 ZG4 ZM4 P4 RX4 RY4 B4 h60
        go_upto_region 10 with fail
        have ZH6 : Hid (Own (w5.alloc (.cells #[.int .i64 C2, .int .i64 R2, .slice ha M.length hc] 49)).drew w5.heap.size 49 #[.int .i64 C2, .int .i64 R2, .slice ha M.length hc]) := Own.new w5 49 _
        have ZG6 : Hid (Own (w5.alloc (.cells #[.int .i64 C2, .int .i64 R2, .slice ha M.length hc] 49)).drew hg 49 #[.int .i64 C, .int .i64 R, .slice la X.length lc]) := ZG5.out.alloc _
        have ZM6 : Hid (Own (w5.alloc (.cells #[.int .i64 C2, .int .i64 R2, .slice ha M.length hc] 49)).drew hm 49 #[.int .i64 C, .int .i64 R, .slice ma X.length mc]) := ZM5.out.alloc _
        have ZO6 : Hid (Own (w5.alloc (.cells #[.int .i64 C2, .int .i64 R2, .slice ha M.length hc] 49)).drew ho 68 #[.int .i64 o.k, .int .i64 o.x, .int .i64 o.y, .int .i64 o.n, .int .i32 o.r, .int .u32 o.f, .int .u32 o.b, .int .u8 o.a, .int .u16 o.l]) := ZO5.out.alloc _
        have RX6 : Hid (CRow (w5.alloc (.cells #[.int .i64 C2, .int .i64 R2, .slice ha M.length hc] 49)).drew 0 (.slice la X.length lc) X) := RX5.out.alloc (.cells #[.int .i64 C2, .int .i64 R2, .slice ha M.length hc] 49)
        have RY6 : Hid (CRow (w5.alloc (.cells #[.int .i64 C2, .int .i64 R2, .slice ha M.length hc] 49)).drew 0 (.slice ma X.length mc) X) := RY5.out.alloc (.cells #[.int .i64 C2, .int .i64 R2, .slice ha M.length hc] 49)
        have RH6 : Hid (CRow (w5.alloc (.cells #[.int .i64 C2, .int .i64 R2, .slice ha M.length hc] 49)).drew 0 (.slice ha M.length hc) M) := RH5.out.alloc (.cells #[.int .i64 C2, .int .i64 R2, .slice ha M.length hc] 49)
        have B6 : Hid (Below w.heap.size w (w5.alloc (.cells #[.int .i64 C2, .int .i64 R2, .slice ha M.length hc] 49)).drew) := below_drewN (B5.out.alloc B5.out.size _) 1
        generalize w5.alloc (.cells #[.int .i64 C2, .int .i64 R2, .slice ha M.length hc] 49) = w6 at ZH6 ZG6 ZM6 ZO6 RX6 RY6 RH6 B6 ⊢
        generalize w5.heap.size = hh at ZH6 ⊢
        have S6 : Hid ((w6.drew.cell? ⟨hh, 0, none⟩ = some (.int .i64 C2) ∧ w6.drew.cell? ⟨hh, 1, none⟩ = some (.int .i64 R2) ∧ w6.drew.cell? ⟨hh, 2, none⟩ = some (.slice ha M.length hc)) ∧ (w6.drew.cell? ⟨hm, 0, none⟩ = some (.int .i64 C) ∧ w6.drew.cell? ⟨hm, 1, none⟩ = some (.int .i64 R) ∧ w6.drew.cell? ⟨hm, 2, none⟩ = some (.slice ma X.length mc)) ∧ (w6.drew.cell? ⟨ho, 0, none⟩ = some (.int .i64 o.k) ∧ w6.drew.cell? ⟨ho, 1, none⟩ = some (.int .i64 o.x) ∧ w6.drew.cell? ⟨ho, 2, none⟩ = some (.int .i64 o.y) ∧ w6.drew.cell? ⟨ho, 3, none⟩ = some (.int .i64 o.n) ∧ w6.drew.cell? ⟨ho, 4, none⟩ = some (.int .i32 o.r) ∧ w6.drew.cell? ⟨ho, 5, none⟩ = some (.int .u32 o.f) ∧ w6.drew.cell? ⟨ho, 6, none⟩ = some (.int .u32 o.b) ∧ w6.drew.cell? ⟨ho, 7, none⟩ = some (.int .u8 o.a) ∧ w6.drew.cell? ⟨ho, 8, none⟩ = some (.int .u16 o.l))) := ⟨⟨Own.cell ZH6.out 0, Own.cell ZH6.out 1, Own.cell ZH6.out 2⟩, ⟨Own.cell ZM6.out 0, Own.cell ZM6.out 1, Own.cell ZM6.out 2⟩, ⟨Own.cell ZO6.out 0, Own.cell ZO6.out 1, Own.cell ZO6.out 2, Own.cell ZO6.out 3, Own.cell ZO6.out 4, Own.cell ZO6.out 5, Own.cell ZO6.out 6, Own.cell ZO6.out 7, Own.cell ZO6.out 8⟩⟩
        clear ZG5 ZM5 ZO5 RX5 RY5 RH5 B5
        refine wp_region_bits_at (S := fun w' => (w'.cell? ⟨hh, 0, none⟩ = some (.int .i64 C2) ∧ w'.cell? ⟨hh, 1, none⟩ = some (.int .i64 R2) ∧ w'.cell? ⟨hh, 2, none⟩ = some (.slice ha M.length hc)) ∧ (w'.cell? ⟨hm, 0, none⟩ = some (.int .i64 C) ∧ w'.cell? ⟨hm, 1, none⟩ = some (.int .i64 R) ∧ w'.cell? ⟨hm, 2, none⟩ = some (.slice ma X.length mc)) ∧ (w'.cell? ⟨ho, 0, none⟩ = some (.int .i64 o.k) ∧ w'.cell? ⟨ho, 1, none⟩ = some (.int .i64 o.x) ∧ w'.cell? ⟨ho, 2, none⟩ = some (.int .i64 o.y) ∧ w'.cell? ⟨ho, 3, none⟩ = some (.int .i64 o.n) ∧ w'.cell? ⟨ho, 4, none⟩ = some (.int .i32 o.r) ∧ w'.cell? ⟨ho, 5, none⟩ = some (.int .u32 o.f) ∧ w'.cell? ⟨ho, 6, none⟩ = some (.int .u32 o.b) ∧ w'.cell? ⟨ho, 7, none⟩ = some (.int .u8 o.a) ∧ w'.cell? ⟨ho, 8, none⟩ = some (.int .u16 o.l))) [(0, true), (1, true), (2, true), (3, false), (4, false), (5, true)] [] (by kernel_rfl) (by kernel_rfl) (fun c a d v w h => by cases d <;> exact h) S6.out ?_
        simp only [bits_, bitOf, List.getElem?_cons_zero, List.getElem?_cons_succ, List.contains_nil]
        repeat (first | (refine bits_take (v := ?_) (by rfl) ?_ ?_; rotate_left; (· intro w' hS; obtain ⟨⟨s0, s1, s2⟩, ⟨s3, s4, s5⟩, ⟨t0, t1, t2, t3, t4, t5, t6, t7, t8⟩⟩ := hS; go_simp; (try (go_ints; try go_simp)); with_reducible rfl); (try simp only [Act.put, List.setIfInBounds_toArray, List.set_cons_zero, List.set_cons_succ])) | (refine bits_skip (by rfl) ?_; (try simp only [Act.put, List.setIfInBounds_toArray, List.set_cons_zero, List.set_cons_succ])))
        refine bits_eff (by rfl) (fun K hK => ?_)
        go_simp
        (try go_ints)
        refine (want_any o C R ma X.length mc X _ RY6.out).mono ?_
        rw [HPC.out, HPR.out, HPM.out]
        rintro e w7 ⟨v7, rfl, r7, b7⟩
        obtain ⟨ta, tc, rfl, tl⟩ := r7.cells
        have TC7 := Lib.hid tl
        have ZH7 := Lib.hid (ZH6.out.below b7 ZH6.out.lt)
        have ZM7 := Lib.hid (ZM6.out.below b7 ZM6.out.lt)
        have ZO7 := Lib.hid (ZO6.out.below b7 ZO6.out.lt)
        have ZG7 := Lib.hid (ZG6.out.below b7 ZG6.out.lt)
        have RX7 := Lib.hid (RX6.out.below b7)
        have RY7 := Lib.hid (RY6.out.below b7)
        have RH7 := Lib.hid (RH6.out.below b7)
        have B7 : Hid (Below w.heap.size w w7) := B6.out.trans (b7.mono B6.out.size)
        have S7 : Hid ((w7.cell? ⟨hh, 0, none⟩ = some (.int .i64 C2) ∧ w7.cell? ⟨hh, 1, none⟩ = some (.int .i64 R2) ∧ w7.cell? ⟨hh, 2, none⟩ = some (.slice ha M.length hc)) ∧ (w7.cell? ⟨hm, 0, none⟩ = some (.int .i64 C) ∧ w7.cell? ⟨hm, 1, none⟩ = some (.int .i64 R) ∧ w7.cell? ⟨hm, 2, none⟩ = some (.slice ma X.length mc)) ∧ (w7.cell? ⟨ho, 0, none⟩ = some (.int .i64 o.k) ∧ w7.cell? ⟨ho, 1, none⟩ = some (.int .i64 o.x) ∧ w7.cell? ⟨ho, 2, none⟩ = some (.int .i64 o.y) ∧ w7.cell? ⟨ho, 3, none⟩ = some (.int .i64 o.n) ∧ w7.cell? ⟨ho, 4, none⟩ = some (.int .i32 o.r) ∧ w7.cell? ⟨ho, 5, none⟩ = some (.int .u32 o.f) ∧ w7.cell? ⟨ho, 6, none⟩ = some (.int .u32 o.b) ∧ w7.cell? ⟨ho, 7, none⟩ = some (.int .u8 o.a) ∧ w7.cell? ⟨ho, 8, none⟩ = some (.int .u16 o.l))) := ⟨⟨Own.cell ZH7.out 0, Own.cell ZH7.out 1, Own.cell ZH7.out 2⟩, ⟨Own.cell ZM7.out 0, Own.cell ZM7.out 1, Own.cell ZM7.out 2⟩, ⟨Own.cell ZO7.out 0, Own.cell ZO7.out 1, Own.cell ZO7.out 2, Own.cell ZO7.out 3, Own.cell ZO7.out 4, Own.cell ZO7.out 5, Own.cell ZO7.out 6, Own.cell ZO7.out 7, Own.cell ZO7.out 8⟩⟩
        clear b7 r7 tl
        refine hK _ _ ?_ ?_
        · exact S7.out
        clear hK K
        (try simp only [Act.put, List.setIfInBounds_toArray, List.set_cons_zero, List.set_cons_succ])
        repeat (first | (refine bits_take (v := ?_) (by rfl) ?_ ?_; rotate_left; (· intro w' hS; obtain ⟨⟨s0, s1, s2⟩, ⟨s3, s4, s5⟩, ⟨t0, t1, t2, t3, t4, t5, t6, t7, t8⟩⟩ := hS; go_simp; (try (go_ints; try go_simp)); with_reducible rfl); (try simp only [Act.put, List.setIfInBounds_toArray, List.set_cons_zero, List.set_cons_succ])) | (refine bits_skip (by rfl) ?_; (try simp only [Act.put, List.setIfInBounds_toArray, List.set_cons_zero, List.set_cons_succ])))
        refine bits_eff (by rfl) (fun K hK => ?_)
        go_simp
        (try go_ints)
        refine (RVal.as (sameg_any C2 R2 C2 R2 ha ta M.length hc M.length tc M M _ (cells_of RH7.out) TC7.out) (congrArg Value.bool (sameG_self C2 R2 M))).mono ?_
        rintro e w8 ⟨rfl, b8⟩
        have ZH8 := Lib.hid (ZH7.out.below b8 ZH7.out.lt)
        have ZM8 := Lib.hid (ZM7.out.below b8 ZM7.out.lt)
        have ZO8 := Lib.hid (ZO7.out.below b8 ZO7.out.lt)
        have ZG8 := Lib.hid (ZG7.out.below b8 ZG7.out.lt)
        have RX8 := Lib.hid (RX7.out.below b8)
        have RY8 := Lib.hid (RY7.out.below b8)
        have RH8 := Lib.hid (RH7.out.below b8)
        have B8 : Hid (Below w.heap.size w w8) := B7.out.trans (b8.mono B7.out.size)
        have S8 : Hid ((w8.cell? ⟨hh, 0, none⟩ = some (.int .i64 C2) ∧ w8.cell? ⟨hh, 1, none⟩ = some (.int .i64 R2) ∧ w8.cell? ⟨hh, 2, none⟩ = some (.slice ha M.length hc)) ∧ (w8.cell? ⟨hm, 0, none⟩ = some (.int .i64 C) ∧ w8.cell? ⟨hm, 1, none⟩ = some (.int .i64 R) ∧ w8.cell? ⟨hm, 2, none⟩ = some (.slice ma X.length mc)) ∧ (w8.cell? ⟨ho, 0, none⟩ = some (.int .i64 o.k) ∧ w8.cell? ⟨ho, 1, none⟩ = some (.int .i64 o.x) ∧ w8.cell? ⟨ho, 2, none⟩ = some (.int .i64 o.y) ∧ w8.cell? ⟨ho, 3, none⟩ = some (.int .i64 o.n) ∧ w8.cell? ⟨ho, 4, none⟩ = some (.int .i32 o.r) ∧ w8.cell? ⟨ho, 5, none⟩ = some (.int .u32 o.f) ∧ w8.cell? ⟨ho, 6, none⟩ = some (.int .u32 o.b) ∧ w8.cell? ⟨ho, 7, none⟩ = some (.int .u8 o.a) ∧ w8.cell? ⟨ho, 8, none⟩ = some (.int .u16 o.l))) := ⟨⟨Own.cell ZH8.out 0, Own.cell ZH8.out 1, Own.cell ZH8.out 2⟩, ⟨Own.cell ZM8.out 0, Own.cell ZM8.out 1, Own.cell ZM8.out 2⟩, ⟨Own.cell ZO8.out 0, Own.cell ZO8.out 1, Own.cell ZO8.out 2, Own.cell ZO8.out 3, Own.cell ZO8.out 4, Own.cell ZO8.out 5, Own.cell ZO8.out 6, Own.cell ZO8.out 7, Own.cell ZO8.out 8⟩⟩
        clear b8
        refine hK _ _ ?_ ?_
        · exact S8.out
        clear hK K
        (try simp only [Act.put, List.setIfInBounds_toArray, List.set_cons_zero, List.set_cons_succ])
        repeat (first | (refine bits_take (v := ?_) (by rfl) ?_ ?_; rotate_left; (· intro w' hS; obtain ⟨⟨s0, s1, s2⟩, ⟨s3, s4, s5⟩, ⟨t0, t1, t2, t3, t4, t5, t6, t7, t8⟩⟩ := hS; go_simp; (try (go_ints; try go_simp)); with_reducible rfl); (try simp only [Act.put, List.setIfInBounds_toArray, List.set_cons_zero, List.set_cons_succ])) | (refine bits_skip (by rfl) ?_; (try simp only [Act.put, List.setIfInBounds_toArray, List.set_cons_zero, List.set_cons_succ])))
        refine bits_nil ?_
        clear S6 S7 S8 ZH6 ZH7 ZG6 ZG7 ZM6 ZM7 ZO6 ZO7 ZO8 RX6 RX7 RY6 RY7 RH6 RH7 B6 B7 TC7
        have g0 := Own.cell ZH8.out 0
        have g1 := Own.cell ZH8.out 1
        have g2 := Own.cell ZH8.out 2
        simp only [List.getElem?_toArray, List.getElem?_cons_zero, List.getElem?_cons_succ] at g0 g1 g2
        rcases HOK.out with hnil | ⟨C3, R3, hC3, hR3, hG3⟩
        · subst hnil
          have HX : Hid (PlRel w hg hm w8) := ⟨C, R, X, la, ma, lc, mc, HGO.out, ZG8.out, ZM8.out, RX8.out, RY8.out, B8.out⟩
          rw [List.length_nil] at g2
          clear HOK
          go_wp2_with fail
          go_roundw
          case rel => exact ⟨q + 1, HQ.out, by go_num, HX⟩
          case measure => have := HQ.out; simp [intOf]; omega
        · subst hC3 hR3
          have HG3 := Lib.hid hG3
          have hml : M.length ≤ 1920 := by rw [hG3.2.2.2.2.1]; exact mul_bound hG3.2.1 hG3.2.2.2.1
          have hmp : 0 < M.length := by rw [hG3.2.2.2.2.1]; exact Nat.mul_pos hG3.1 hG3.2.2.1
          have hm1 : (M.length == 0) = false := beq_eq_false_iff_ne.2 (by omega)
          have hm2 : ((M.length : Int) == 0) = false := beq_eq_false_iff_ne.2 (by omega)
          clear hG3 HOK
          go_upto_region 13 with fail
          clear g0 g1 g2
          have ZH9 : Hid (Own w8.drew hh 49 #[.int .i64 C3, .int .i64 R3, .slice ha M.length hc]) := ZH8.out
          have ZG9 : Hid (Own w8.drew hg 49 #[.int .i64 C, .int .i64 R, .slice la X.length lc]) := ZG8.out
          have ZM9 : Hid (Own w8.drew hm 49 #[.int .i64 C, .int .i64 R, .slice ma X.length mc]) := ZM8.out
          have RH9 : Hid (CRow w8.drew 0 (.slice ha M.length hc) M) := RH8.out
          have B9 : Hid (Below w.heap.size w w8.drew) := below_drewN B8.out 1
          have S9 : Hid (w8.drew.cell? ⟨hh, 0, none⟩ = some (.int .i64 C3) ∧ w8.drew.cell? ⟨hh, 1, none⟩ = some (.int .i64 R3) ∧ w8.drew.cell? ⟨hh, 2, none⟩ = some (.slice ha M.length hc)) := ⟨Own.cell ZH9.out 0, Own.cell ZH9.out 1, Own.cell ZH9.out 2⟩
          refine wp_region_bits_at (S := fun w' => w'.cell? ⟨hh, 0, none⟩ = some (.int .i64 C3) ∧ w'.cell? ⟨hh, 1, none⟩ = some (.int .i64 R3) ∧ w'.cell? ⟨hh, 2, none⟩ = some (.slice ha M.length hc)) [(0, true), (1, true), (2, false), (3, false), (4, false)] [3, 4] (by kernel_rfl) (by kernel_rfl) (fun c a d v w h => by cases d <;> exact h) S9.out ?_
          simp only [bits_, bitOf, List.getElem?_cons_zero, List.getElem?_cons_succ, List.contains_nil, List.contains_cons, Nat.reduceBEq, Bool.or_false, Bool.or_true]
          repeat (first | (refine bits_take (v := ?_) (by rfl) ?_ ?_; rotate_left; (· intro w' hS; obtain ⟨s0, s1, s2⟩ := hS; go_simp; (try (go_ints; try go_simp)); with_reducible rfl); (try simp only [Act.put, List.setIfInBounds_toArray, List.set_cons_zero, List.set_cons_succ])) | (refine bits_skip (by rfl) ?_; (try simp only [Act.put, List.setIfInBounds_toArray, List.set_cons_zero, List.set_cons_succ])))
          refine bits_eff (by rfl) (fun K hK => ?_)
          go_simp
          (try go_ints)
          refine (ref_copy_any C3 R3 ha M.length hc M _ (cells_of RH9.out) (by omega)).mono ?_
          rintro e w10 ⟨v10, rfl, r10, b10⟩
          obtain ⟨na, nc, rfl, _⟩ := r10.cells
          have ZH10 := Lib.hid (ZH9.out.below b10 ZH9.out.lt)
          have ZM10 := Lib.hid (ZM9.out.below b10 ZM9.out.lt)
          have ZG10 := Lib.hid (ZG9.out.below b10 ZG9.out.lt)
          have RH10 := Lib.hid (RH9.out.below b10)
          have B10 : Hid (Below w.heap.size w w10) := B9.out.trans (b10.mono B9.out.size)
          have RN10 : Hid (CRow w10 0 (.slice na M.length nc) M) := r10.up (Nat.zero_le _)
          have S10 : Hid (w10.cell? ⟨hh, 0, none⟩ = some (.int .i64 C3) ∧ w10.cell? ⟨hh, 1, none⟩ = some (.int .i64 R3) ∧ w10.cell? ⟨hh, 2, none⟩ = some (.slice ha M.length hc)) := ⟨Own.cell ZH10.out 0, Own.cell ZH10.out 1, Own.cell ZH10.out 2⟩
          clear b10 r10
          refine hK _ _ ?_ ?_
          · exact S10.out
          clear hK K
          (try simp only [Act.put, List.setIfInBounds_toArray, List.set_cons_zero, List.set_cons_succ])
          repeat (first | (refine bits_take (v := ?_) (by rfl) ?_ ?_; rotate_left; (· intro w' hS; obtain ⟨s0, s1, s2⟩ := hS; go_simp; (try (go_ints; try go_simp)); with_reducible rfl); (try simp only [Act.put, List.setIfInBounds_toArray, List.set_cons_zero, List.set_cons_succ])) | (refine bits_skip (by rfl) ?_; (try simp only [Act.put, List.setIfInBounds_toArray, List.set_cons_zero, List.set_cons_succ])))
          refine bits_tail (by rfl) (fun K hK => ?_)
          refine gvstore_op _ _ rfl (c := C3) (r := R3) (sa := ha) (sn := M.length) (sc := hc) rfl rfl ZG10.out fun w11 o11 k11 => ?_
          have ZG11 := Lib.hid o11
          have ZM11 := Lib.hid (ZM10.out.grown k11 (by intro q; injection q with q; omega))
          have RH11 : Hid (CRow w11 0 (.slice ha M.length hc) M) := World.ownsRow.kept RH10.out k11 (apart_own RH10.out ZG10.out (by decide))
          have RN11 : Hid (CRow w11 0 (.slice na M.length nc) M) := World.ownsRow.kept RN10.out k11 (apart_own RN10.out ZG10.out (by decide))
          have B11 : Hid (Below w.heap.size w w11) := below_grown B10.out k11 hwg B10.out.size
          clear o11 k11
          refine hK _ _ ?_
          clear hK K
          (try simp only [Act.put])
          repeat (first | (refine bits_take (v := ?_) (by rfl) ?_ ?_; rotate_left; (· intro w' hS; obtain ⟨s0, s1, s2⟩ := hS; go_simp; (try (go_ints; try go_simp)); with_reducible rfl); (try simp only [Act.put, List.setIfInBounds_toArray, List.set_cons_zero, List.set_cons_succ])) | (refine bits_skip (by rfl) ?_; (try simp only [Act.put, List.setIfInBounds_toArray, List.set_cons_zero, List.set_cons_succ])))
          refine bits_tail (by rfl) (fun K hK => ?_)
          refine gvstore_op _ _ rfl (c := C3) (r := R3) (sa := na) (sn := M.length) (sc := nc) rfl rfl ZM11.out fun w12 o12 k12 => ?_
          have ZM12 := Lib.hid o12
          have ZG12 := Lib.hid (ZG11.out.grown k12 (by intro q; injection q with q; omega))
          have RH12 : Hid (CRow w12 0 (.slice ha M.length hc) M) := World.ownsRow.kept RH11.out k12 (apart_own RH11.out ZM11.out (by decide))
          have RN12 : Hid (CRow w12 0 (.slice na M.length nc) M) := World.ownsRow.kept RN11.out k12 (apart_own RN11.out ZM11.out (by decide))
          have B12 : Hid (Below w.heap.size w w12) := below_grown B11.out k12 (by omega) B11.out.size
          clear o12 k12
          refine hK _ _ ?_
          clear hK K
          (try simp only [Act.put])
          repeat (first | (refine bits_take (v := ?_) (by rfl) ?_ ?_; rotate_left; (· intro w' hS; obtain ⟨s0, s1, s2⟩ := hS; go_simp; (try (go_ints; try go_simp)); with_reducible rfl); (try simp only [Act.put, List.setIfInBounds_toArray, List.set_cons_zero, List.set_cons_succ])) | (refine bits_skip (by rfl) ?_; (try simp only [Act.put, List.setIfInBounds_toArray, List.set_cons_zero, List.set_cons_succ])))
          refine bits_nil ?_
          have HX : Hid (PlRel w hg hm w12) := ⟨C3, R3, M, ha, na, hc, nc, HG3.out, ZG12.out, ZM12.out, RH12.out, RN12.out, B12.out⟩
          have G12 := ZG12
          clear ZH8 ZH9 ZH10 ZG8 ZG9 ZG10 ZG11 ZG12 ZM8 ZM9 ZM10 ZM11 ZM12 RH8 RH9 RH10 RH11 RN10 RN11 RN12 RX8 RY8 B8 B9 B10 B11 S9 S10
          have g0 := Own.cell G12.out 0
          have g1 := Own.cell G12.out 1
          have g2 := Own.cell G12.out 2
          simp only [List.getElem?_toArray, List.getElem?_cons_zero, List.getElem?_cons_succ] at g0 g1 g2
          go_wp2_with fail
          refine (RVal.as (gmay_any C3 R3 ha M.length hc M _ (cells_of RH12.out) (row_fit RH12.out) (HT.out.below B12.out)) (congrArg Value.bool (gmay_iff.2 ⟨C3, R3, rfl, rfl, HG3.out⟩))).mono ?_
          rintro e w13 ⟨rfl, b13⟩
          have HX13 : Hid (PlRel w hg hm w13) := HX.out.below b13
          clear b13 HX g0 g1 g2
          go_wp2_with fail
          go_roundw
          case rel => exact ⟨q + 1, HQ.out, by go_num, HX13⟩
          case measure => have := HQ.out; simp [intOf]; omega
    · obtain rfl : n = q := by omega
      have hdq : decide (n < n) = false := decide_eq_false hq
      have B4 : Hid (Below w.heap.size w wr) := by obtain ⟨_, _, _, _, _, _, _, _, _, _, _, _, k⟩ := HR.out; exact k
      clear hq HR
      go_wp2_with fail
      go_ret
      exact ⟨rfl, B4.out⟩
end Go.Proofs.YtlhcehealjdbdaaDoor
/- From the cards' condition, that the two tables read as the program's text lays them, to their cells; and a start that meets it. -/
namespace Go.Proofs.YtlhcehealjdbdaaDoor
open Go.ChangeShapes Go.WideShapes Go.ChangeAt Go.WideMaps Go.WideElems Go.RowKit
theorem gNone : Tryd.prog.globalNamed "spyglass/utf.none" = some 0 := by kernel_rfl
theorem gWide : Tryd.prog.globalNamed "spyglass/utf.wide" = some 1 := by kernel_rfl
theorem tNone : (Tryd.prog.globals[0]?).map (·.type) = some 88 := by kernel_rfl
theorem tWide : (Tryd.prog.globals[1]?).map (·.type) = some 89 := by kernel_rfl
theorem tc87 : Tryd.prog.cellsOf 87 = 2 := by kernel_rfl
theorem tc21 : Tryd.prog.cellsOf 21 = 1 := by kernel_rfl
def laid2 : List (String × DataW Unit) := [("spyglass/utf.none", Rows.laid_spyglass_utf_none), ("spyglass/utf.wide", Rows.laid_spyglass_utf_wide)]
def pairD (p : Int × Int) : DataW Unit := .agg [.lit (.int .i32 p.1), .lit (.int .i32 p.2)]
theorem pair_cells {enc : TypeId × Value → Unit} {w : World} {base : Nat} {spare : Nat → Bool} {held : Bool} {m : Nat} {cs : List Value} {p : Int × Int} {q : List MemPlace} (h : DataW.trod enc Tryd.prog w base spare held m 87 cs = some (pairD p, q)) : cs = [.int .i32 p.1, .int .i32 p.2] := by
  obtain ⟨ys, m1, rfl, hx, hlen, hn, hel⟩ := DataW.trod_array Tryd.underlying87 h
  have hc : cs.length = 2 := by rw [hlen]; kernel_rfl
  simp only [Prod.mk.injEq, pairD, DataW.agg.injEq] at hx
  match ys, hn, hx, cs, hc, hel with
  | [y0, y1], _, hx, [c0, c1], _, hel =>
    have h0 : DataW.trod enc Tryd.prog w base spare held m1 21 [c0] = some y0 := by simpa [tc21] using hel 0 (by decide)
    have h1 : DataW.trod enc Tryd.prog w base spare held m1 21 [c1] = some y1 := by simpa [tc21] using hel 1 (by decide)
    simp only [List.map_cons, List.map_nil, List.cons.injEq, and_true] at hx
    obtain ⟨a, e0, f0, _⟩ := DataW.trod_int Tryd.underlying21 h0
    obtain ⟨b, e1, f1, _⟩ := DataW.trod_int Tryd.underlying21 h1
    rw [f0, f1] at hx
    simp only [DataW.lit.injEq, Lit.int.injEq, true_and] at hx
    obtain ⟨⟨h2, h3⟩, _⟩ := hx
    simp only [List.cons.injEq, and_true] at e0 e1
    rw [e0, e1, ← h2, ← h3]
theorem flatT_at : ∀ {T : List (Int × Int)} {i : Nat} {p : Int × Int}, T[i]? = some p → (flatT T)[i * 2]? = some (.int .i32 p.1) ∧ (flatT T)[i * 2 + 1]? = some (.int .i32 p.2)
  | [], i, p, h => by simp at h
  | t :: T, 0, p, h => by simp at h; subst h; exact ⟨rfl, rfl⟩
  | t :: T, i + 1, p, h => by
    have := flatT_at (T := T) (i := i) (p := p) (by simpa using h)
    refine ⟨?_, ?_⟩
    · rw [show (i + 1) * 2 = i * 2 + 1 + 1 from by omega]; exact this.1
    · rw [show (i + 1) * 2 + 1 = i * 2 + 1 + 1 + 1 from by omega]; exact this.2
theorem flatT_len : ∀ T : List (Int × Int), (flatT T).length = T.length * 2
  | [] => rfl
  | t :: T => by simp [flatT, flatT_len T]; omega
theorem table_cells {enc : TypeId × Value → Unit} {w : World} {base : Nat} {spare : Nat → Bool} {held : Bool} {m t n : Nat} {cs : List Value} {T : List (Int × Int)} {q : List MemPlace} (ht : Tryd.prog.underlying t = some (.array n 87))
    (h : DataW.trod enc Tryd.prog w base spare held m t cs = some (.agg (T.map pairD), q)) : ∀ (j : Nat) (v : Value), (flatT T)[j]? = some v → cs[j]? = some v := by
  obtain ⟨xs, m1, rfl, hx, hlen, hn, hel⟩ := DataW.trod_array ht h
  simp only [Prod.mk.injEq, DataW.agg.injEq] at hx
  intro j v hj
  have hjl : j < T.length * 2 := by
    rcases Nat.lt_or_ge j (T.length * 2) with k | k
    · exact k
    · rw [List.getElem?_eq_none (by rw [flatT_len]; exact k)] at hj
      cases hj
  have hTl : T.length = n := by
    have := congrArg List.length hx.1
    simpa [hn] using this
  have hi : j / 2 < n := by omega
  have h1 := hel (j / 2) hi
  rw [tc87] at h1
  have hxl : j / 2 < xs.length := by omega
  have hTi : T[j / 2]? = some (T[j / 2]'(by omega)) := List.getElem?_eq_getElem (by omega)
  have hd : (xs[j / 2]'hxl).1 = pairD (T[j / 2]'(by omega)) := by
    have := congrArg (fun l => l[j / 2]?) hx.1
    simp only [List.getElem?_map, hTi, List.getElem?_eq_getElem hxl, Option.map_some, Option.some.injEq] at this
    exact this.symm
  rw [List.getElem?_eq_getElem hxl, show xs[j / 2]'hxl = (pairD (T[j / 2]'(by omega)), (xs[j / 2]'hxl).2) from by rw [← hd]] at h1
  have h2 := pair_cells h1
  have h3 := flatT_at hTi
  have key : ∀ r, r < 2 → cs[j / 2 * 2 + r]? = ([.int .i32 (T[j / 2]'(by omega)).1, .int .i32 (T[j / 2]'(by omega)).2] : List Value)[r]? := fun r hr => by
    rw [← h2, List.getElem?_take, if_pos hr, List.getElem?_drop]
  rcases (by omega : j = j / 2 * 2 ∨ j = j / 2 * 2 + 1) with e | e
  · rw [e] at hj ⊢
    rw [h3.1] at hj
    have := key 0 (by decide)
    rw [Nat.add_zero] at this
    rw [this]
    exact hj
  · rw [e] at hj ⊢
    rw [h3.2] at hj
    rw [key 1 (by decide)]
    exact hj
theorem door_met (os : Os) (args : Array Value) : laidMetH Tryd.prog laid2 ((World.doorLaid Tryd.prog 32 os).forCall (fun _ _ => 0) ⟨#[], args, []⟩).memory :=
  laidMetH_of_parts3 (fuel := 8) (laidMet_of_run' 8 (by kernel_rfl) (by kernel_rfl)) (by kernel_rfl) (by kernel_rfl)
theorem tabs_of {W : World} (h : laidMetH Tryd.prog laid2 W) : Tabs W := by
  rw [MakeChecks.laidMetH_plain _ _ _ (by kernel_rfl)] at h
  obtain ⟨ps, ⟨k0, t0, cs0, f0, p0, q0, hg0, ht0, hv0, hd0, ⟨k1, t1, cs1, f1, p1, q1, hg1, ht1, hv1, hd1, _, _⟩, _⟩, _, _⟩ := h
  obtain rfl := Option.some.inj (gNone.symm.trans hg0)
  obtain rfl := Option.some.inj (gWide.symm.trans hg1)
  obtain rfl := Option.some.inj (tNone.symm.trans ht0)
  obtain rfl := Option.some.inj (tWide.symm.trans ht1)
  refine ⟨fun j v hj => ?_, fun j v hj => ?_⟩
  · rw [World.var?_cell hg0 hv0 j]
    have := table_cells (T := tabN) Tryd.underlying88 hd0 j v hj
    simpa using this
  · rw [World.var?_cell hg1 hv1 j]
    have := table_cells (T := tabW) Tryd.underlying89 hd1 j v hj
    simpa using this
end Go.Proofs.YtlhcehealjdbdaaDoor
