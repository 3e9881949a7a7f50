/- No number is taken twice: the walk. -/
import Derived.Test.YtnjneljlphilnaaKnows
import Derived.Test.YtnjneljlphilnaaInts
import Derived.Maps.OwnOps
import Derived.Maps.RangeWalk
namespace Go.Proofs.Ytnjneljlphilnaa
open Go.RowKit
open Go.Maps
attribute [local go_sem] alloc_drewN setCell_drewN


theorem law22 : Keyed Try.prog 22 := int_keyed Try.underlying22
theorem zero3 (w : World) : (zeroValue 3).run Try.prog w = .ok (.int .i64 0) w := by kernel_rfl
/-- The map holds 1 at what was taken, and nothing else. -/
def Ones (T : Nat → Prop) (D : DataW Unit) : Prop := IsMap D ∧ ∀ m : Nat, (T m → ∀ z, D.atKey (.int .u64 m) z = .lit (.int .i64 1)) ∧ (¬ T m → ∀ z, D.atKey (.int .u64 m) z = z)
theorem Ones.none : Ones (fun _ => False) (.map []) := ⟨⟨[], rfl⟩, fun _ => ⟨fun h => h.elim, fun _ _ => rfl⟩⟩
theorem Ones.put {T : Nat → Prop} {D : DataW Unit} (h : Ones T D) (n : Nat) : Ones (fun m => m = n ∨ T m) (D.put (.int .u64 n) (.lit (.int .i64 1))) := by
  refine ⟨h.1.put _ _, fun m => ⟨fun hm z => ?_, fun hm z => ?_⟩⟩
  · by_cases e : m = n
    · subst e
      exact atKey_put_same h.1 (show WideAt.IsKeyLit (.int .u64 (m : Int)) from trivial) _ _
    · rw [atKey_put_other (by intro k; injection k with _ k; exact e (by omega))]
      exact (h.2 m).1 (hm.resolve_left e) z
  · rw [atKey_put_other (by intro k; injection k with _ k; exact hm (.inl (by omega)))]
    exact (h.2 m).2 (fun k => hm (.inr k)) z
def ORel (w : World) (bm k : Nat) (T : Nat → Prop) (s : St) (D : DataW Unit) (wr : World) : Prop :=
  G wr w.heap.size s ∧ wr.ownsMap Try.prog 22 (plainElem Try.prog 3) bm k D ∧ Ones T D ∧ Knows T s ∧ Below w.heap.size w wr ∧ w.heap.size < bm
theorem once_zero {T : Nat → Prop} {D : DataW Unit} {m : Nat} {c : Int} (h : Ones T D) (hn : ¬ T m) (hat : D.atKey (.int .u64 m) (.lit (.int .i64 0)) = .lit (.int .i64 c)) : c = 0 := by
  rw [(h.2 m).2 hn] at hat
  injection hat with hat
  injection hat with _ hat
  exact hat.symm
theorem once_one {T : Nat → Prop} {D : DataW Unit} {x c : Int} (h : Ones T D) (hw : (Lit.int .u64 x).wf = true) (hat : ∀ z, D.atKey (.int .u64 x) z = .lit (.int .i64 c)) : c = 1 := by
  have hx : 0 ≤ x := by
    simp [Lit.wf, IntKind.min, IntKind.max, IntKind.signed, IntKind.bits] at hw
    omega
  obtain ⟨m, rfl⟩ : ∃ m : Nat, x = m := ⟨x.toNat, by omega⟩
  by_cases ht : T m
  · have := (hat .nil).symm.trans ((h.2 m).1 ht .nil)
    injection this with this
    injection this with _ this
  · have := (hat .nil).symm.trans ((h.2 m).2 ht .nil)
    cases this
theorem ORel.step {w wr w1 w2 : World} {bm k n : Nat} {T : Nat → Prop} {s : St} {D : DataW Unit} (h : ORel w bm k T s D wr) (hc : chk s n = 0) (g1 : G w1 w.heap.size (tk s n)) (t1 : wr.grownBy w1 (some w.heap.size))
    (o2 : w2.ownsMap Try.prog 22 (plainElem Try.prog 3) bm (k + 1) (D.put (.int .u64 n) (.lit (.int .i64 1)))) (t2 : w1.grownBy w2 (some bm)) : ORel w bm (k + 1) (fun m => m = n ∨ T m) (tk s n) (D.put (.int .u64 n) (.lit (.int .i64 1))) w2 := by
  obtain ⟨_, _, h3, h4, h5, h6⟩ := h
  refine ⟨Own.grown g1 t2 (by simp; omega), o2, h3.put n, knows_tk h4 hc, ?_, h6⟩
  exact (h5.grown t1 h5.size (fun k hk => by cases hk; exact Nat.le_refl _)).grown t2 (Nat.le_trans h5.size t1.size) (fun k hk => by cases hk; omega)
theorem ORel.stay {w wr w1 : World} {bm k n : Nat} {T : Nat → Prop} {s : St} {D : DataW Unit} (h : ORel w bm k T s D wr) (hc : ¬ chk s n = 0) (g1 : G w1 w.heap.size (tk s n)) (t1 : wr.grownBy w1 (some w.heap.size)) : ORel w bm (k + 1) T s D w1 := by
  obtain ⟨_, h2, h3, h4, h5, h6⟩ := h
  rw [(tk_eq s n).1 hc] at g1
  exact ⟨g1, (h2.kept t1 (by simp; omega)).mono (by omega), h3, h4, h5.grown t1 h5.size (fun k hk => by cases hk; exact Nat.le_refl _), h6⟩
theorem ORel.not_yet {w wr : World} {bm k n : Nat} {T : Nat → Prop} {s : St} {D : DataW Unit} (h : ORel w bm k T s D wr) (hc : chk s n = 0) : ¬ T n := by
  intro ht
  have := (knows_chk h.2.2.2.1 (chk_le s n hc)).2.2 (.inl ht)
  omega

set_option maxHeartbeats 1000000 in
theorem once_walk (f : Nat) (a : Option Addr) (n c : Nat) (zs : List Nat) (w : World) (hl : Ints .u8 w a n zs) (hz : ∀ z ∈ zs, z < 256) : Calls Try.prog 3 #[.int .u64 f, .slice a n c] w fun e w' => e = .returned (.bool true) ∧ Below w.heap.size w w' := by
  obtain ⟨d, hd⟩ : ∃ d : Nat, d = f % 2305843009213693952 := ⟨_, rfl⟩
  have hdl : d < 2305843009213693952 := by omega
  have hdi : (f : Int) % 2305843009213693952 = (d : Int) := by omega
  have HD := Lib.hid hdi
  clear hd hdi
  have HL := Lib.hid hl
  have hn := hl.2.1
  clear hl
  have HZ := Lib.hid hz
  clear hz
  have hmm := @run_makeMap Try.prog
  go_enter Try.func3, Try.ntmps3
  go_wp2_with fail
  refine (new_any _).mono ?_
  rintro e w' ⟨rfl, rfl⟩
  go_wp2_with fail
  refine (fixed_any _).mono ?_
  rintro e w1 ⟨rfl, hb1⟩
  go_wp2_with fail
  rw [HD.out]
  have hb1s := hb1.size
  simp at hb1s
  have hM : ORel w w1.heap.size 0 (fun _ => False) s0 (.map []) (w1.alloc (.map #[] 0)) := by
    refine ⟨Own.alloc (Own.below (G_new w) hb1 (by simp)) _, World.ownsMap_made _ _ _ _, Ones.none, knows_new, ?_, by omega⟩
    exact (((Below.refl _ _).alloc (Nat.le_refl _) _).trans (hb1.mono (by simp))).alloc (by omega) _
  have HM := Lib.hid hM
  obtain ⟨bm, hbe⟩ : ∃ b, b = w1.heap.size := ⟨_, rfl⟩
  rw [← hbe] at HM ⊢
  clear hM hb1 hb1s hbe hmm
  go_loopw [23] (fun i wr => ∃ (k : Nat) (T : Nat → Prop) (s : St) (D : DataW Unit), k ≤ n ∧ k ≤ 2001 ∧ i = .int .i64 k ∧ ORel w bm k T s D wr) (fun i _ => n - (intOf i).toNat)
  case atStart => exact ⟨0, _, s0, _, by omega, by omega, rfl, HM.out⟩
  case round =>
    obtain ⟨k, T, s, D, hk, hk2, rfl, hM⟩ := hrel
    have HR := Lib.hid hM
    clear hM HM
    by_cases hkn : k < n
    · obtain ⟨b, off, rfl, hbl, hc⟩ := HL.out.2.2 (by omega)
      have hcell := hc k hkn
      have hx : zs.getD k 0 < 256 := by
        rw [List.getD_eq_getElem?_getD, List.getElem?_eq_getElem (by rw [HL.out.1]; exact hkn)]
        exact HZ.out _ (List.getElem_mem _)
      obtain ⟨x, hxe⟩ : ∃ x, x = zs.getD k 0 := ⟨_, rfl⟩
      rw [← hxe] at hcell hx
      clear hxe hc
      have hcw : wr.cell? ⟨b, off + k, none⟩ = some (.int .u8 x) := (HR.out.2.2.2.2.1.cell hbl).trans hcell
      clear hcell
      by_cases hbr : 2000 < k
      · have hbr' : decide (2000 < (k : Int)) = true := decide_eq_true (by omega)
        clear hbr
        go_wp2_with (at_range; refine wpList_range_own _ rfl _ 27 rfl 22 3 law22 Try.underlying27 _ bm k _ rfl HR.out.2.1 ?_; intro w3 hrg0 hg0 hs0)
        have HT : Hid (w3.ranges Try.prog 22 (plainElem Try.prog 3) bm wr.heap.size k D (Maps.has D) (Maps.size D) ∧ Below w.heap.size w w3) := ⟨hrg0, HR.out.2.2.2.2.1.grown hg0 HR.out.2.2.2.2.1.size (fun k hk => by cases hk)⟩
        have HS := Lib.hid HR.out.2.2.2.2.1.size
        obtain ⟨r, hr⟩ : ∃ r, r = wr.heap.size := ⟨_, rfl⟩
        rw [← hr] at HT HS ⊢
        have HO := Lib.hid HR.out.2.2.1
        clear hrg0 hg0 hs0 hr HR
        go_frame
        go_loopw [10] (fun _ wz => ∃ (left : Lit → Bool) (cnt : Nat), wz.ranges Try.prog 22 (plainElem Try.prog 3) bm r k D left cnt ∧ Below w.heap.size w wz) (fun _ wz => wz.rangeLeft bm r)
        case atStart => exact ⟨_, _, HT.out.1, HT.out.2⟩
        case round =>
          obtain ⟨left, cnt, hrg, hgw⟩ := hrel
          have HG := Lib.hid hgw
          clear hgw HT
          go_wp2_with (at_next; refine wpList_next_ranges_ii _ rfl _ rfl 22 3 .u64 .i64 law22 Try.underlying22 Try.underlying3 bm r k _ _ _ rfl hrg ?_ ?_)
          · intro _ hl0
            go_wp2_with fail
            go_ret
            exact ⟨rfl, HG.out⟩
          · intro x c w4 cnt1 hwx hwc hlx hat hrg1 hlt hg1 hs1 hen
            obtain rfl : c = 1 := once_one HO.out hwx hat
            have HN := Lib.hid (HG.out.grown hg1 HG.out.size (fun k hk => by cases hk; exact HS.out))
            clear hat hlx hwx hwc
            go_wp2_with fail
            go_roundw
            case rel => exact ⟨_, cnt1, hrg1, HN.out⟩
            case measure => rw [hrg1.left_eq, hrg.left_eq]; exact hlt
      · have hbr' : (k : Int) ≤ 2000 := by omega
        by_cases hc0 : chk s (d + x) = 0
        · have HNY := Lib.hid (HR.out.not_yet hc0)
          have HC := Lib.hid hc0
          have hkey : keyOf Try.prog 22 (.int .u64 ((d : Int) + (x : Int))) = some (.int .u64 ((d + x : Nat) : Int)) := by
            rw [← Int.natCast_add]
            exact keyOf_int_mk Try.underlying22 (by simp [Lit.wf, IntKind.min, IntKind.max, IntKind.signed, IntKind.bits]; omega)
          have HK := Lib.hid hkey
          clear hc0 hkey
          go_wp2_with fail
          refine (take_at HR.out.1 HR.out.2.2.2.1.1 (n := d + x) (by omega) HC.out rfl).mono ?_
          rintro e w2 ⟨rfl, g2, t2⟩
          have G2 := Lib.hid g2
          have T2 := Lib.hid t2
          have HO := Lib.hid (HR.out.2.1.kept t2 (by have := HR.out.2.2.2.2.2; simp; omega))
          clear g2 t2
          go_wp2_with (first
            | (at_lookup; refine wpList_lookup_own_int _ rfl _ _ 27 rfl 22 3 .i64 law22 Try.underlying27 Try.underlying3 (zero3 _) bm k _ rfl HO.out _ _ rfl HK.out ?_; intro c hat hwc; obtain rfl : c = 0 := once_zero HR.out.2.2.1 HNY.out hat; clear hat hwc)
            | (at_mapUpdate; refine wpList_mapUpdate_own _ rfl _ _ _ 27 rfl 22 3 law22 Try.underlying27 _ bm k _ rfl HO.out (by unfold maxLen; omega) _ _ _ rfl rfl HK.out _ [] (plainElem_int Try.underlying3 (by decide)) ?_; intro w3 hown3 hgrow3))
          have HN := Lib.hid (HR.out.step HC.out G2.out T2.out hown3 hgrow3)
          clear hown3 hgrow3
          go_roundw
          case rel => exact ⟨k + 1, _, _, _, by omega, by omega, by go_num, HN.out⟩
          case measure => simp [intOf]; omega
        · obtain ⟨q, hq⟩ : ∃ q, q = chk s (d + x) := ⟨_, rfl⟩
          have hq0 : ((q : Int) == 0) = false := by simpa using (by omega : ¬ q = 0)
          have HC := Lib.hid hc0
          have HQ := Lib.hid hq
          clear hc0 hq
          go_wp2_with fail
          refine (take_at HR.out.1 HR.out.2.2.2.1.1 (n := d + x) (by omega) HQ.out.symm rfl).mono ?_
          rintro e w2 ⟨rfl, g2, t2⟩
          have HN := Lib.hid (HR.out.stay HC.out g2 t2)
          clear g2 t2
          go_wp2_with fail
          go_roundw
          case rel => exact ⟨k + 1, _, _, _, by omega, by omega, by go_num, HN.out⟩
          case measure => simp [intOf]; omega
    · obtain rfl : k = n := by omega
      go_wp2_with (at_range; refine wpList_range_own _ rfl _ 27 rfl 22 3 law22 Try.underlying27 _ bm k _ rfl HR.out.2.1 ?_; intro w3 hrg0 hg0 hs0)
      have HT : Hid (w3.ranges Try.prog 22 (plainElem Try.prog 3) bm wr.heap.size k D (Maps.has D) (Maps.size D) ∧ Below w.heap.size w w3) := ⟨hrg0, HR.out.2.2.2.2.1.grown hg0 HR.out.2.2.2.2.1.size (fun k hk => by cases hk)⟩
      have HS := Lib.hid HR.out.2.2.2.2.1.size
      obtain ⟨r, hr⟩ : ∃ r, r = wr.heap.size := ⟨_, rfl⟩
      rw [← hr] at HT HS ⊢
      have HO := Lib.hid HR.out.2.2.1
      clear hrg0 hg0 hs0 hr HR
      go_frame
      go_loopw [10] (fun _ wz => ∃ (left : Lit → Bool) (cnt : Nat), wz.ranges Try.prog 22 (plainElem Try.prog 3) bm r k D left cnt ∧ Below w.heap.size w wz) (fun _ wz => wz.rangeLeft bm r)
      case atStart => exact ⟨_, _, HT.out.1, HT.out.2⟩
      case round =>
        obtain ⟨left, cnt, hrg, hgw⟩ := hrel
        have HG := Lib.hid hgw
        clear hgw HT
        go_wp2_with (at_next; refine wpList_next_ranges_ii _ rfl _ rfl 22 3 .u64 .i64 law22 Try.underlying22 Try.underlying3 bm r k _ _ _ rfl hrg ?_ ?_)
        · intro _ hl0
          go_wp2_with fail
          go_ret
          exact ⟨rfl, HG.out⟩
        · intro x c w4 cnt1 hwx hwc hlx hat hrg1 hlt hg1 hs1 hen
          obtain rfl : c = 1 := once_one HO.out hwx hat
          have HN := Lib.hid (HG.out.grown hg1 HG.out.size (fun k hk => by cases hk; exact HS.out))
          clear hat hlx hwx hwc
          go_wp2_with fail
          go_roundw
          case rel => exact ⟨_, cnt1, hrg1, HN.out⟩
          case measure => rw [hrg1.left_eq, hrg.left_eq]; exact hlt
end Go.Proofs.Ytnjneljlphilnaa
