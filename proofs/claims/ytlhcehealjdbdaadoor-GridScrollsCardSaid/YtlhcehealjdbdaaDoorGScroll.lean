/- A grid in which rows stand further up. -/
import Derived.Test.YtlhcehealjdbdaaDoorGTurn
import Derived.Deep.DeepCutAuto
namespace Go.Proofs.YtlhcehealjdbdaaDoor
open Go.RowKit
set_option linter.unusedSimpArgs false
set_option linter.unusedVariables false
attribute [local go_sem] alloc_drewN setCell_drewN


theorem grow_as (C R g off n cp F : Nat) (r y : Int) (hF : (F : Int) = y) (w : World) (h1 : 1 ≤ C) (h8 : C ≤ 80) (hy : F < R) (hr : R ≤ 24) (hn : n = C * R) (hcp : n ≤ cp) :
    Calls Tryd.prog 59 #[.agg #[.int .i64 C, .int .i64 r, .slice (some ⟨g, off, none⟩) n cp], .int .i64 y] w (RVal (.slice (some ⟨g, off + F * C * 6, none⟩) C C) w) := by
  subst hF
  exact grow_any C F R g off n cp r w h1 h8 hy hr hn hcp
/-- The row that comes to stand at z. -/
def newRow (C : Nat) (xs : List Glyph) (top bot n b : Int) (z : Nat) : List Glyph := if top ≤ (z : Int) + n ∧ (z : Int) + n ≤ bot then rowOf C ((z : Int) + n).toNat xs else List.replicate C (blank b)
/-- Behind k rows. -/
def scrF (C : Nat) (xs : List Glyph) (top bot n b : Int) : Nat → List Glyph
  | 0 => xs
  | k + 1 => setRow (scrF C xs top bot n b k) C (top.toNat + k) (newRow C xs top bot n b (top.toNat + k))
noncomputable def scrollP (c r : Int) (xs : List Glyph) (top bot n f b : Int) : List Glyph :=
  if (gridMay c r xs && penMay f b) = true then
    (if top < 0 ∨ r ≤ bot ∨ bot < top ∨ n = 0 then xs else scrF c.toNat xs top bot (max (-(bot - top + 1)) (min n (bot - top + 1))) b (bot - top + 1).toNat)
  else []
theorem newRow_len {C R : Nat} {xs : List Glyph} {top bot n b : Int} {z : Nat} (hl : xs.length = C * R) (h0 : 0 ≤ top) (hb : bot < R) : (newRow C xs top bot n b z).length = C := by
  unfold newRow
  split
  · exact row_len hl (r := R) (by omega)
  · exact List.length_replicate
theorem scrF_len {C R : Nat} {xs : List Glyph} {top bot n b : Int} (hl : xs.length = C * R) (h0 : 0 ≤ top) (hb : bot < R) : ∀ k : Nat, top.toNat + k ≤ R → (scrF C xs top bot n b k).length = C * R
  | 0, _ => hl
  | k + 1, h => setRow_len (scrF_len hl h0 hb k (by omega)) (by omega) (newRow_len hl h0 hb)
theorem fill_row {C R Y : Nat} {ys : List Glyph} {d : Glyph} (hl : ys.length = C * R) (hy : Y < R) : fillP ys (Y * C) d C = setRow ys C Y (List.replicate C d) := by
  have hm := mul_row (c := C) hy
  refine gext ?_ fun j hj => ?_
  · rw [fillP_len, setRow_len hl hy List.length_replicate]
    exact hl
  · show at_ (fillP ys (Y * C) d C) j = at_ (setRow ys C Y _) j
    rw [fill_at (by omega), setRow_at hl hy List.length_replicate]
    by_cases h1 : Y * C ≤ j ∧ j < Y * C + C
    · rw [if_pos h1, if_pos h1]
      unfold at_
      rw [List.getD_eq_getElem?_getD, List.getElem?_replicate, if_pos (by omega)]
      rfl
    · rw [if_neg h1, if_neg h1]
/-- The copy under way, its record, what came in, the pen, the answer's place. -/
def SRel (w : World) (base g hb vc C R : Nat) (sa : Option Addr) (sn cp : Nat) (f b d l : Int) (n : Nat) (ys : List Glyph) (wr : World) : Prop :=
  CRow wr base (.slice (some ⟨g, 0, none⟩) n vc) ys ∧ Own wr hb 49 #[.int .i64 C, .int .i64 R, .slice (some ⟨g, 0, none⟩) n vc] ∧ Own wr w.heap.size 49 #[.int .i64 C, .int .i64 R, .slice sa sn cp] ∧ Own wr (w.heap.size + 1) 26 #[.int .u32 f, .int .u32 b, .int .u8 d, .int .u16 l] ∧ Own wr (w.heap.size + 2) 49 #[.int .i64 0, .int .i64 0, .slice none 0 0] ∧ Below w.heap.size w wr
section
variable {w w1 w2 : World} {base g hb vc C R : Nat} {sa : Option Addr} {sn cp : Nat} {f b d l : Int} {n : Nat} {ys zs : List Glyph}
theorem SRel.below (h : SRel w base g hb vc C R sa sn cp f b d l n ys w1) (k : Below w1.heap.size w1 w2) : SRel w base g hb vc C R sa sn cp f b d l n ys w2 :=
  ⟨h.1.below k, h.2.1.below k h.2.1.lt, h.2.2.1.below k h.2.2.1.lt, h.2.2.2.1.below k h.2.2.2.1.lt, h.2.2.2.2.1.below k h.2.2.2.2.1.lt, h.2.2.2.2.2.trans (k.mono h.2.2.2.2.2.size)⟩
theorem SRel.put (h : SRel w base g hb vc C R sa sn cp f b d l n ys w1) (r : CRow w2 base (.slice (some ⟨g, 0, none⟩) n vc) zs) (k : w1.grownBy w2 (some g)) (h1 : w.heap.size + 3 ≤ g) (h2 : hb ≠ g) : SRel w base g hb vc C R sa sn cp f b d l n zs w2 :=
  ⟨r, h.2.1.grown k (fun e => by injection e with e; omega), h.2.2.1.grown k (fun e => by injection e with e; omega), h.2.2.2.1.grown k (fun e => by injection e with e; omega), h.2.2.2.2.1.grown k (fun e => by injection e with e; omega), below_grown h.2.2.2.2.2 k (by omega) h.2.2.2.2.2.size⟩
end
theorem gpart_list {w : World} {o : Oper} {a : Act} {Q : Exit → Act → World → Prop} {ops : Array Oper} {rest : List Oper} (hgd : o.guard = none) (p q : Operand) (ho : o.op = .call { callee := .builtin .copy, args := #[p, q], argTypes := #[29, 29] }) {base g n c : Nat} {xs qs : List Glyph} (ds m : Nat) {dp sp : Option Addr} {dl sl dc sc : Nat}
    (hd : a.eval p = .slice dp dl dc) (hs : a.eval q = .slice sp sl sc) (hr : CRow w base (.slice (some ⟨g, 0, none⟩) n c) xs) (hq : Cells w sp sl qs) (hm : m = Nat.min sl dl) (hdl : ds + m ≤ n)
    (hdp : 0 < m → dp = some ⟨g, ds * 6, none⟩)
    (h : ∀ w', CRow w' base (.slice (some ⟨g, 0, none⟩) n c) (xs.take ds ++ qs.take m ++ xs.drop (ds + m)) → w.grownBy w' (some g) → wpList Tryd.prog ops Q rest (a.put o.dst (goInt m)) w') : wpList Tryd.prog ops Q (o :: rest) a w :=
  wpList_plain hgd fun K hK => gpart_op p q ho ds m hd hs hr hq hm hdl hdp fun w' h1 h2 => hK _ _ (h w' h1 h2)
set_option maxRecDepth 10000 in
set_option maxHeartbeats 4000000 in
theorem gscroll_any (c r top bot m f b d l : Int) (a : Option Addr) (n cp : Nat) (xs : List Glyph) (w : World) (hl : Cells w a n xs) (hcp : n ≤ cp) (ht : Tabs w) :
    Calls Tryd.prog 38 #[.agg #[.int .i64 c, .int .i64 r, .slice a n cp], .int .i64 top, .int .i64 bot, .int .i64 m, .agg #[.int .u32 f, .int .u32 b, .int .u8 d, .int .u16 l]] w (GG (okI c r xs f b c) (okI c r xs f b r) (scrollP c r xs top bot m f b) w) := by
  obtain rfl := hl.1
  have HL := Lib.hid hl
  have HT := Lib.hid ht
  clear hl ht
  obtain ⟨ok, hok⟩ : ∃ ok, (gridMay c r xs && penMay f b) = ok := ⟨_, rfl⟩
  have HGO := Lib.hid (fun w0 hB hT => gown_any c r f b d l a xs.length cp xs w0 (HL.out.below (w' := w0) hB) hcp hT)
  rw [hok] at HGO
  have B0 : Hid (Below w.heap.size w (((w.alloc (.cells #[.int .i64 c, .int .i64 r, .slice a xs.length cp] 49)).alloc (.cells #[.int .u32 f, .int .u32 b, .int .u8 d, .int .u16 l] 26)).alloc (.cells #[.int .i64 0, .int .i64 0, .slice none 0 0] 49))) := (((Below.refl _ _).alloc (Nat.le_refl _) _).alloc (by simp) _).alloc (by simp; omega) _
  have G0 : Hid (Own (((w.alloc (.cells #[.int .i64 c, .int .i64 r, .slice a xs.length cp] 49)).alloc (.cells #[.int .u32 f, .int .u32 b, .int .u8 d, .int .u16 l] 26)).alloc (.cells #[.int .i64 0, .int .i64 0, .slice none 0 0] 49)) w.heap.size 49 #[.int .i64 c, .int .i64 r, .slice a xs.length cp]) := ((Own.new w 49 _).alloc _).alloc _
  have P0' : Own (((w.alloc (.cells #[.int .i64 c, .int .i64 r, .slice a xs.length cp] 49)).alloc (.cells #[.int .u32 f, .int .u32 b, .int .u8 d, .int .u16 l] 26)).alloc (.cells #[.int .i64 0, .int .i64 0, .slice none 0 0] 49)) (w.heap.size + 1) 26 #[.int .u32 f, .int .u32 b, .int .u8 d, .int .u16 l] := by
    have h := (Own.new (w.alloc (.cells #[.int .i64 c, .int .i64 r, .slice a xs.length cp] 49)) 26 #[.int .u32 f, .int .u32 b, .int .u8 d, .int .u16 l]).alloc (.cells #[.int .i64 0, .int .i64 0, .slice none 0 0] 49)
    simpa using h
  have A0' : Own (((w.alloc (.cells #[.int .i64 c, .int .i64 r, .slice a xs.length cp] 49)).alloc (.cells #[.int .u32 f, .int .u32 b, .int .u8 d, .int .u16 l] 26)).alloc (.cells #[.int .i64 0, .int .i64 0, .slice none 0 0] 49)) (w.heap.size + 2) 49 #[.int .i64 0, .int .i64 0, .slice none 0 0] := by
    have h := Own.new ((w.alloc (.cells #[.int .i64 c, .int .i64 r, .slice a xs.length cp] 49)).alloc (.cells #[.int .u32 f, .int .u32 b, .int .u8 d, .int .u16 l] 26)) 49 #[.int .i64 0, .int .i64 0, .slice none 0 0]
    simpa using h
  have P0 := Lib.hid P0'
  have A0 := Lib.hid A0'
  have hz0 : w.heap.size + 3 ≤ (((w.alloc (.cells #[.int .i64 c, .int .i64 r, .slice a xs.length cp] 49)).alloc (.cells #[.int .u32 f, .int .u32 b, .int .u8 d, .int .u16 l] 26)).alloc (.cells #[.int .i64 0, .int .i64 0, .slice none 0 0] 49)).heap.size := by simp
  clear P0' A0'
  have g0 := Own.cell G0.out 0
  have g1 := Own.cell G0.out 1
  have g2 := Own.cell G0.out 2
  simp only [List.getElem?_toArray, List.getElem?_cons_zero, List.getElem?_cons_succ] at g0 g1 g2
  have e0 := Own.cell P0.out 0
  have e1 := Own.cell P0.out 1
  have e2 := Own.cell P0.out 2
  have e3 := Own.cell P0.out 3
  simp only [List.getElem?_toArray, List.getElem?_cons_zero, List.getElem?_cons_succ] at e0 e1 e2 e3
  go_enter Tryd.func38, Tryd.ntmps38
  go_wp2_with fail
  refine (HGO.out _ B0.out (HT.out.below B0.out)).mono ?_
  clear HGO
  generalize ((w.alloc (.cells #[.int .i64 c, .int .i64 r, .slice a xs.length cp] 49)).alloc (.cells #[.int .u32 f, .int .u32 b, .int .u8 d, .int .u16 l] 26)).alloc (.cells #[.int .i64 0, .int .i64 0, .slice none 0 0] 49) = w0 at B0 G0 P0 A0 hz0 g0 g1 g2 e0 e1 e2 e3 ⊢
  clear g0 g1 g2 e0 e1 e2 e3
  cases ok with
  | false =>
    have HF : Hid (okI c r xs f b c = 0 ∧ okI c r xs f b r = 0 ∧ scrollP c r xs top bot m f b = []) := by unfold okI scrollP; rw [hok]; exact ⟨rfl, rfl, rfl⟩
    clear hok
    rintro e w1 ⟨rfl, b1⟩
    have B1 : Hid (Below w.heap.size w w1) := B0.out.trans (b1.mono B0.out.size)
    have G1 := Lib.hid (G0.out.below b1 (by omega))
    have P1 := Lib.hid (P0.out.below b1 (by omega))
    have A1 := Lib.hid (A0.out.below b1 (by omega))
    have hz1 : w.heap.size + 3 ≤ w1.heap.size := Nat.le_trans hz0 b1.size
    clear b1
    go_upto_region 2 with fail
    have H2 : Hid (Own (w1.alloc (.cells #[.int .i64 0, .int .i64 0, .slice none 0 0] 49)) w1.heap.size 49 #[.int .i64 0, .int .i64 0, .slice none 0 0]) := Own.new w1 49 _
    have B2 : Hid (Below w.heap.size w (w1.alloc (.cells #[.int .i64 0, .int .i64 0, .slice none 0 0] 49))) := B1.out.alloc B1.out.size _
    have A2 := Lib.hid (A1.out.alloc (.cells #[.int .i64 0, .int .i64 0, .slice none 0 0] 49))
    generalize w1.alloc (.cells #[.int .i64 0, .int .i64 0, .slice none 0 0] 49) = w2 at H2 B2 A2 ⊢
    have g0 := Own.cell H2.out 0
    have g1 := Own.cell H2.out 1
    have g2 := Own.cell H2.out 2
    simp only [List.getElem?_toArray, List.getElem?_cons_zero, List.getElem?_cons_succ] at g0 g1 g2
    have hA := A2.out
    go_wp2_with (first
      | (refine gvstore_list rfl _ _ rfl (c := 0) (r := 0) (sa := none) (sn := 0) (sc := 0) rfl rfl hA ?_; intro w3 o3 k3; have O3 := Lib.hid o3; have B3 : Hid (Below w.heap.size w w3) := below_grown B2.out k3 (by omega) B2.out.size; clear o3 k3 hA)
      | go_in)
    clear g0 g1 g2
    have g0 := Own.cell O3.out 0
    have g1 := Own.cell O3.out 1
    have g2 := Own.cell O3.out 2
    simp only [List.getElem?_toArray, List.getElem?_cons_zero, List.getElem?_cons_succ] at g0 g1 g2
    (try simp only [Exit.inBlock, Exit.then])
    refine bodyPost_ret (v := .agg #[.int .i64 0, .int .i64 0, .slice none 0 0]) (by simp [results, Tryd.results38, go_sem, g0, g1, g2]) rfl ?_
    obtain ⟨h1, h2, h3⟩ := HF.out
    rw [h1, h2, h3]
    exact ⟨_, rfl, CRow.nil _ _, B3.out⟩
  | true =>
    rintro e w1 ⟨v1, rfl, r1, b1⟩
    have B1 : Hid (Below w.heap.size w w1) := B0.out.trans (b1.mono B0.out.size)
    have G1 := Lib.hid (G0.out.below b1 (by omega))
    have P1 := Lib.hid (P0.out.below b1 (by omega))
    have A1 := Lib.hid (A0.out.below b1 (by omega))
    have hz1 : w.heap.size + 3 ≤ w1.heap.size := Nat.le_trans hz0 b1.size
    obtain ⟨va, vc, rfl, _⟩ := r1.cells
    obtain ⟨C, R, rfl, rfl, hgo⟩ := gmay_iff.1 (Bool.and_eq_true_iff.1 hok).1
    obtain ⟨o1, o2, o3, o4, o5, _⟩ := hgo
    have hpos : 0 < C * R := Nat.mul_pos (by omega) (by omega)
    obtain ⟨g, rfl⟩ := crow_addr r1 (by omega)
    obtain ⟨ga, goff, rfl, hga, _⟩ := HL.out.2.2 (by omega)
    have hgb : w0.heap.size ≤ g := (crow_at r1 (k := 0) (by omega)).2.1
    have hglt : g < w1.heap.size := (World.ownsRow.lt r1 g rfl).2
    have hvc := crow_cap r1 (by omega)
    have R1 : Hid (CRow w1 w0.heap.size (.slice (some ⟨g, 0, none⟩) xs.length vc) xs) := r1
    have HO5 := Lib.hid o5
    have hbnd := mul_bound o2 o4
    rw [← o5] at hbnd
    clear r1 b1 o5
    have HOI : Hid (okI C R xs f b C = C ∧ okI C R xs f b R = R) := by unfold okI; rw [hok]; exact ⟨rfl, rfl⟩
    have HSP : Hid (scrollP C R xs top bot m f b = if top < 0 ∨ (R : Int) ≤ bot ∨ bot < top ∨ m = 0 then xs else scrF C xs top bot (max (-(bot - top + 1)) (min m (bot - top + 1))) b (bot - top + 1).toNat) := by unfold scrollP; rw [hok, if_pos rfl, Int.toNat_natCast]; rfl
    clear hok
    go_upto_region 2 with fail
    have SR0 : Hid (SRel w w0.heap.size g w1.heap.size vc C R (some ⟨ga, goff, none⟩) xs.length cp f b d l xs.length xs (w1.alloc (.cells #[.int .i64 C, .int .i64 R, .slice (some ⟨g, 0, none⟩) xs.length vc] 49))) := ⟨R1.out.alloc _, Own.new w1 49 _, G1.out.alloc _, P1.out.alloc _, A1.out.alloc _, B1.out.alloc B1.out.size _⟩
    clear R1 G1 P1 A1 B1
    generalize w1.alloc (.cells #[.int .i64 C, .int .i64 R, .slice (some ⟨g, 0, none⟩) xs.length vc] 49) = w2 at SR0 ⊢
    have hhb : w1.heap.size ≠ g := by omega
    generalize w1.heap.size = hb at SR0 hhb hglt hz1 ⊢
    have g0 := Own.cell SR0.out.2.1 0
    have g1 := Own.cell SR0.out.2.1 1
    have g2 := Own.cell SR0.out.2.1 2
    simp only [List.getElem?_toArray, List.getElem?_cons_zero, List.getElem?_cons_succ] at g0 g1 g2
    obtain ⟨bad, hbad⟩ : ∃ bad, decide (top < 0 ∨ (R : Int) ≤ bot ∨ bot < top ∨ m = 0) = bad := ⟨_, rfl⟩
    have HBAD := Lib.hid hbad
    clear hbad
    go_cut [44] (fun v wc => v = .bool bad ∧ w2 = wc)
    case first =>
      cases t1 : decide (top < 0) with
      | true =>
        go_wp2_with fail
        go_meet
        exact ⟨congrArg Value.bool ((decide_eq_true (.inl (of_decide_eq_true t1))).symm.trans HBAD.out), rfl⟩
      | false =>
      cases t2 : decide ((R : Int) ≤ bot) with
      | true =>
        go_wp2_with fail
        go_meet
        exact ⟨congrArg Value.bool ((decide_eq_true (.inr (.inl (of_decide_eq_true t2)))).symm.trans HBAD.out), rfl⟩
      | false =>
      cases t3 : decide (bot < top) with
      | true =>
        go_wp2_with fail
        go_meet
        exact ⟨congrArg Value.bool ((decide_eq_true (.inr (.inr (.inl (of_decide_eq_true t3))))).symm.trans HBAD.out), rfl⟩
      | false =>
      cases t4 : (m == 0) with
      | true =>
        go_wp2_with fail
        go_meet
        exact ⟨congrArg Value.bool ((decide_eq_true (.inr (.inr (.inr (eq_of_beq t4))))).symm.trans HBAD.out), rfl⟩
      | false =>
        go_wp2_with fail
        go_meet
        exact ⟨congrArg Value.bool ((decide_eq_false (fun k => by
          have := of_decide_eq_false t1
          have := of_decide_eq_false t2
          have := of_decide_eq_false t3
          have := beq_eq_false_iff_ne.1 t4
          omega)).symm.trans HBAD.out), rfl⟩
    case rest =>
      obtain ⟨rfl, rfl⟩ := hcut
      cases bad with
      | true =>
        have HF : Hid (scrollP C R xs top bot m f b = xs) := by rw [HSP.out, if_pos (of_decide_eq_true HBAD.out)]; rfl
        have A4 := Lib.hid SR0.out.2.2.2.2.1
        have B4 := Lib.hid SR0.out.2.2.2.2.2
        have R4 := Lib.hid SR0.out.1
        have hA := A4.out
        go_wp2_with (first
          | (refine gvstore_list rfl _ _ rfl (c := C) (r := R) (sa := some ⟨g, 0, none⟩) (sn := xs.length) (sc := vc) rfl rfl hA ?_; intro w9 o9 k9; have O9 := Lib.hid o9; have B9 : Hid (Below w.heap.size w w9) := below_grown B4.out k9 (by omega) B4.out.size; have R9 := Lib.hid (crow_other R4.out k9 (by omega)); clear o9 k9 hA)
          | go_in)
        clear g0 g1 g2
        have g0 := Own.cell O9.out 0
        have g1 := Own.cell O9.out 1
        have g2 := Own.cell O9.out 2
        simp only [List.getElem?_toArray, List.getElem?_cons_zero, List.getElem?_cons_succ] at g0 g1 g2
        (try simp only [Exit.inBlock, Exit.then])
        refine bodyPost_ret (v := .agg #[.int .i64 C, .int .i64 R, .slice (some ⟨g, 0, none⟩) xs.length vc]) (by simp [results, Tryd.results38, go_sem, g0, g1, g2]) rfl ?_
        rw [HOI.out.1, HOI.out.2, HF.out]
        exact ⟨_, rfl, R9.out.up B0.out.size, B9.out⟩
      | false =>
        have hb4 := of_decide_eq_false HBAD.out
        obtain ⟨T, rfl⟩ : ∃ T : Nat, top = T := ⟨top.toNat, by omega⟩
        obtain ⟨U, rfl⟩ : ∃ U : Nat, bot = U := ⟨bot.toNat, by omega⟩
        have hUR : U < R := by omega
        have hTU : T ≤ U := by omega
        obtain ⟨H, hH⟩ : ∃ H : Nat, (U : Int) - T + 1 = H := ⟨U - T + 1, by omega⟩
        have HH := Lib.hid hH
        obtain ⟨N, hN⟩ : ∃ N : Int, max (-((H : Nat) : Int)) (min m (H : Int)) = N := ⟨_, rfl⟩
        have HN := Lib.hid hN
        have hNb : -24 ≤ N ∧ N ≤ 24 := by omega
        have HF : Hid (scrollP C R xs T U m f b = scrF C xs T U N b H) := by rw [HSP.out, if_neg hb4, HH.out, HN.out, Int.toNat_natCast]; rfl
        have hNb1 := hNb.1
        have hNb2 := hNb.2
        clear hb4 hN hH hNb HSP HBAD
        go_upto_region 4 with fail
        clear g0 g1 g2
        go_cut [13] (fun v wc => v = .int .i64 H ∧ w2 = wc)
        case first =>
          have hH := HH.out
          go_wp2_with fail
          go_meet
          exact ⟨congrArg (Value.int .i64) (by omega), rfl⟩
        case rest =>
          obtain ⟨rfl, rfl⟩ := hcut
          go_upto_region 5 with fail
          go_cut [3] (fun v wc => v = .int .i64 N ∧ w2 = wc)
          case first =>
            have hN := HN.out
            have hHb : (H : Int) ≤ 24 := by have := HH.out; omega
            have hHb0 : (0 : Int) ≤ (H : Int) := by omega
            go_wp2_with fail
            all_goals (go_meet; exact ⟨congrArg (Value.int .i64) (by omega), rfl⟩)
          case rest =>
            obtain ⟨rfl, rfl⟩ := hcut
            obtain ⟨S, hS⟩ : ∃ S, S = scrF C xs T U N b := ⟨_, rfl⟩
            have HS := Lib.hid hS
            have HS0 : Hid (S 0 = xs) := by rw [hS]; rfl
            have HSN : Hid (∀ k, S (k + 1) = setRow (S k) C (T + k) (newRow C xs T U N b (T + k))) := fun k => by rw [hS]; rfl
            have HSL : Hid (∀ k, T + k ≤ R → (S k).length = C * R) := fun k hk => by rw [hS]; exact scrF_len HO5.out (by omega) (by omega) k (by rw [Int.toNat_natCast]; exact hk)
            clear hS
            have HL0 : Hid (SRel w w0.heap.size g hb vc C R (some ⟨ga, goff, none⟩) xs.length cp f b d l xs.length (S 0) w2) := by rw [HS0.out]; exact SR0.out
            clear SR0 HS0
            go_wp2_with fail
            go_loopw [14] (fun v wr => ∃ k Y : Nat, T + k = Y ∧ Y ≤ U + 1 ∧ v = .int .i64 Y ∧ Hid (SRel w w0.heap.size g hb vc C R (some ⟨ga, goff, none⟩) xs.length cp f b d l xs.length (S k) wr)) (fun v _ => U + 1 - (intOf v).toNat)
            case atStart => exact ⟨0, T, by omega, by omega, rfl, HL0⟩
            case round =>
              obtain ⟨k, Y, hkY, hYU, rfl, HR⟩ := hrel
              clear HL0
              by_cases hY : Y ≤ U
              · have hdY : decide (Y ≤ U) = true := decide_eq_true hY
                have hYR : Y < R := by omega
                have HKY := Lib.hid hkY
                have hsl := HSL.out k (by omega)
                have hmr := mul_row (c := C) hYR
                have HGC := Lib.hid (fun wz => grow_any C Y R g 0 xs.length vc R wz o1 o2 hYR o4 HO5.out hvc)
                have HQ : Hid (Y ≤ U) := hY
                obtain ⟨Z, hZ⟩ : ∃ Z, Y * C = Z := ⟨_, rfl⟩
                have HZ := Lib.hid hZ
                rw [hZ] at HGC hmr
                have HSLK := Lib.hid hsl
                have hZn : Z + C ≤ xs.length := by rw [HO5.out]; exact hmr
                clear hkY hsl hmr hZ
                have g0 := Own.cell HR.out.2.1 0
                have g1 := Own.cell HR.out.2.1 1
                have g2 := Own.cell HR.out.2.1 2
                simp only [List.getElem?_toArray, List.getElem?_cons_zero, List.getElem?_cons_succ] at g0 g1 g2
                go_wp2_with fail
                refine (HGC.out _).mono ?_
                rintro e w4 ⟨rfl, b4⟩
                have S4 : Hid (SRel w w0.heap.size g hb vc C R (some ⟨ga, goff, none⟩) xs.length cp f b d l xs.length (S k) w4) := HR.out.below b4
                clear b4 g0 g1 g2 HR
                rw [Nat.zero_add]
                go_upto_region 11 with fail
                by_cases hin : (T : Int) ≤ (Y : Int) + N ∧ (Y : Int) + N ≤ (U : Int)
                · obtain ⟨F, hF⟩ : ∃ F : Nat, (F : Int) = (Y : Int) + N := ⟨((Y : Int) + N).toNat, by omega⟩
                  have HFF := Lib.hid hF
                  have hFR : F < R := by omega
                  have d1 : decide ((T : Int) ≤ (Y : Int) + N) = true := decide_eq_true hin.1
                  have d2 : decide ((Y : Int) + N ≤ (U : Int)) = true := decide_eq_true hin.2
                  have HNX : Hid (S (k + 1) = setRow (S k) C Y (rowOf C F xs)) := by
                    rw [HSN.out, HKY.out]
                    unfold newRow
                    rw [if_pos hin, ← hF, Int.toNat_natCast]
                    rfl
                  have HGD := Lib.hid (fun wz => grow_as C R ga goff xs.length cp F R _ hF wz o1 o2 hFR o4 HO5.out hcp)
                  have hmf := mul_row (c := C) hFR
                  have HPART : Hid (Cells w4 (some ⟨ga, goff + F * C * 6, none⟩) C (rowOf C F xs)) := cells_part (HL.out.below S4.out.2.2.2.2.2) (s := F * C) (m := C) (by rw [HO5.out]; exact hmf)
                  have HRL : Hid ((rowOf C F xs).length = C) := row_len HO5.out hFR
                  clear hF hin hmf
                  have g0 := Own.cell S4.out.2.2.1 0
                  have g1 := Own.cell S4.out.2.2.1 1
                  have g2 := Own.cell S4.out.2.2.1 2
                  simp only [List.getElem?_toArray, List.getElem?_cons_zero, List.getElem?_cons_succ] at g0 g1 g2
                  go_wp2_with fail
                  refine (HGD.out _).mono ?_
                  rintro e w5 ⟨rfl, b5⟩
                  have S5 : Hid (SRel w w0.heap.size g hb vc C R (some ⟨ga, goff, none⟩) xs.length cp f b d l xs.length (S k) w5) := S4.out.below b5
                  have HP5 := Lib.hid (HPART.out.below b5)
                  clear b5 g0 g1 g2 S4
                  go_wp2_with (first
                    | (refine gpart_list rfl _ _ rfl Z C rfl rfl S5.out.1 HP5.out (Nat.min_self C).symm (by have := S5.out.1; exact hZn) (fun _ => rfl) ?_; intro w6 r6 k6; have S6 : Hid (SRel w w0.heap.size g hb vc C R (some ⟨ga, goff, none⟩) xs.length cp f b d l xs.length (S (k + 1)) w6) := S5.out.put (by rw [HNX.out]; unfold setRow; rw [List.take_of_length_le (l := rowOf C F xs) (by rw [HRL.out]; exact Nat.le_refl _)] at r6; rw [HZ.out]; exact r6) k6 (by omega) hhb; clear r6 k6)
                    | go_in)
                  go_roundw
                  case rel => exact ⟨k + 1, Y + 1, by have := HKY.out; omega, by have := HQ.out; omega, by go_num, S6⟩
                  case measure => have := HQ.out; simp [intOf]; omega
                · have HNX : Hid (S (k + 1) = setRow (S k) C Y (List.replicate C (blank b))) := by
                    rw [HSN.out, HKY.out]
                    unfold newRow
                    rw [if_neg hin]
                    rfl
                  have HFILL : Hid (fillP (S k) Z (blank b) C = S (k + 1)) := by
                    rw [HNX.out, ← HZ.out]
                    exact fill_row HSLK.out hYR
                  have S4' : Hid (SRel w w0.heap.size g hb vc C R (some ⟨ga, goff, none⟩) xs.length cp f b d l xs.length (fillP (S k) Z (blank b) 0) w4) := S4.out
                  clear S4
                  go_cut [75] (fun v wc => v = .bool false ∧ w4 = wc)
                  case first =>
                    cases d1 : decide ((T : Int) ≤ (Y : Int) + N) with
                    | false =>
                      go_wp2_with fail
                      go_meet
                      exact ⟨rfl, rfl⟩
                    | true =>
                      have d2 : decide ((Y : Int) + N ≤ (U : Int)) = false := decide_eq_false (fun q => hin ⟨of_decide_eq_true d1, q⟩)
                      go_wp2_with fail
                      go_meet
                      exact ⟨rfl, rfl⟩
                  case rest =>
                    obtain ⟨rfl, rfl⟩ := hcut
                    clear hin
                    go_wp2_with fail
                    go_loopw [83] (fun v wr => ∃ x : Nat, x ≤ C ∧ v = .int .i64 x ∧ Hid (SRel w w0.heap.size g hb vc C R (some ⟨ga, goff, none⟩) xs.length cp f b d l xs.length (fillP (S k) Z (blank b) x) wr)) (fun v _ => C - (intOf v).toNat)
                    case atStart => exact ⟨0, by omega, rfl, S4'⟩
                    case round =>
                      obtain ⟨x, hx1, rfl, HX⟩ := hrel
                      clear S4'
                      by_cases hx : x < C
                      · have hi0 : (0 : Int) ≤ (x : Int) := by omega
                        have hi1 : (x : Int) < (C : Int) := by omega
                        have hdx : decide (x < C) = true := decide_eq_true hx
                        have HXC : Hid (x < C) := hx
                        have hzx : Z + x < xs.length := by omega
                        have e0 := Own.cell HX.out.2.2.2.1 0
                        have e1 := Own.cell HX.out.2.2.2.1 1
                        have e2 := Own.cell HX.out.2.2.2.1 2
                        have e3 := Own.cell HX.out.2.2.2.1 3
                        simp only [List.getElem?_toArray, List.getElem?_cons_zero, List.getElem?_cons_succ] at e0 e1 e2 e3
                        go_wp2_with fail
                        refine (blank_any f b d l _).mono ?_
                        rintro e w5 ⟨rfl, b5⟩
                        have S5 : Hid (SRel w w0.heap.size g hb vc C R (some ⟨ga, goff, none⟩) xs.length cp f b d l xs.length (fillP (S k) Z (blank b) x) w5) := HX.out.below b5
                        clear b5 e0 e1 e2 e3 HX
                        go_wp2_with (first
                          | (refine gstore_list rfl _ _ rfl (d := blank b) (k := Z + x) (by show Value.pointer (some ⟨g, Z * 6 + x * 6, none⟩) = _; rw [← Nat.add_mul]) rfl S5.out.1 hzx ?_; intro w6 r6 k6; have S6 : Hid (SRel w w0.heap.size g hb vc C R (some ⟨ga, goff, none⟩) xs.length cp f b d l xs.length (fillP (S k) Z (blank b) (x + 1)) w6) := S5.out.put r6 k6 (by omega) hhb; clear r6 k6)
                          | go_in)
                        go_roundw
                        case rel => exact ⟨x + 1, HXC.out, by go_num, S6⟩
                        case measure => have := HXC.out; simp [intOf]; omega
                      · obtain rfl : x = C := by omega
                        have hdx : decide (x < x) = false := decide_eq_false hx
                        have S6 : Hid (SRel w w0.heap.size g hb vc x R (some ⟨ga, goff, none⟩) xs.length cp f b d l xs.length (S (k + 1)) wr) := by rw [← HFILL.out]; exact HX.out
                        clear hx HX
                        go_wp2_with fail
                        go_roundw
                        case rel => exact ⟨k + 1, Y + 1, by have := HKY.out; omega, by have := HQ.out; omega, by go_num, S6⟩
                        case measure => have := HQ.out; simp [intOf]; omega
              · have hdY : decide (Y ≤ U) = false := decide_eq_false hY
                obtain rfl : k = H := by have := HH.out; omega
                have A4 := Lib.hid HR.out.2.2.2.2.1
                have B4 := Lib.hid HR.out.2.2.2.2.2
                have R4 := Lib.hid HR.out.1
                have g0 := Own.cell HR.out.2.1 0
                have g1 := Own.cell HR.out.2.1 1
                have g2 := Own.cell HR.out.2.1 2
                simp only [List.getElem?_toArray, List.getElem?_cons_zero, List.getElem?_cons_succ] at g0 g1 g2
                clear hkY
                have hA := A4.out
                go_wp2_with (first
                  | (refine gvstore_list rfl _ _ rfl (c := C) (r := R) (sa := some ⟨g, 0, none⟩) (sn := xs.length) (sc := vc) rfl rfl hA ?_; intro w9 o9 k9; have O9 := Lib.hid o9; have B9 : Hid (Below w.heap.size w w9) := below_grown B4.out k9 (by omega) B4.out.size; have R9 := Lib.hid (crow_other R4.out k9 (by omega)); clear o9 k9 hA)
                  | go_in)
                clear g0 g1 g2
                have g0 := Own.cell O9.out 0
                have g1 := Own.cell O9.out 1
                have g2 := Own.cell O9.out 2
                simp only [List.getElem?_toArray, List.getElem?_cons_zero, List.getElem?_cons_succ] at g0 g1 g2
                (try simp only [Exit.inBlock, Exit.then])
                refine bodyPost_ret (v := .agg #[.int .i64 C, .int .i64 R, .slice (some ⟨g, 0, none⟩) xs.length vc]) (by simp [results, Tryd.results38, go_sem, g0, g1, g2]) rfl ?_
                rw [HOI.out.1, HOI.out.2, HF.out]
                exact ⟨_, rfl, by rw [← HS.out]; exact R9.out.up B0.out.size, B9.out⟩
end Go.Proofs.YtlhcehealjdbdaaDoor
