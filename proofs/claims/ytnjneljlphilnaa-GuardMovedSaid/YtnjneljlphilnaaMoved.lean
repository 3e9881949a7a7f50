/- Where numbers begin plays no part: the walk. -/
import Derived.Test.YtnjneljlphilnaaFixed
import Derived.Test.YtnjneljlphilnaaInts
namespace Go.Proofs.Ytnjneljlphilnaa
open Go.RowKit
attribute [local go_sem] alloc_drewN setCell_drewN


def Moved (d : Nat) (s s' : St) : Prop := s'.any = s.any ∧ s'.seen = s.seen ∧ (s.any = true → s'.top = s.top + d ∧ s.top < 65536) ∧ s.ok ∧ s'.ok
theorem moved_new (d : Nat) : Moved d s0 s0 := ⟨rfl, rfl, fun h => by simp [s0] at h, s0_ok, s0_ok⟩
theorem chk_in (s : St) (n : Nat) (h : n ≤ 4611686018427387904) : chk s n = if s.any = false ∨ s.top < n then 0 else if 64 ≤ s.top - n ∨ s.seen.testBit (s.top - n) = true then 10 else 0 := if_neg (by omega)
theorem tk_eq (s : St) (n : Nat) : (chk s n ≠ 0 → tk s n = s) ∧ (chk s n = 0 → s.any = false → tk s n = ⟨true, n, 1⟩) ∧
    (chk s n = 0 → s.any = true → s.top < n → tk s n = ⟨true, n, (if 64 ≤ n - s.top then 0 else s.seen * 2 ^ (n - s.top) % 18446744073709551616) ||| 1⟩) ∧
    (chk s n = 0 → s.any = true → ¬ s.top < n → tk s n = ⟨true, s.top, s.seen ||| 2 ^ (s.top - n)⟩) := by
  unfold tk
  refine ⟨fun h => if_pos h, fun h k => ?_, fun h k l => ?_, fun h k l => ?_⟩
  · rw [if_neg (by omega), if_pos k]
  · rw [if_neg (by omega), if_neg (by simp [k]), if_pos l]
  · rw [if_neg (by omega), if_neg (by simp [k]), if_neg l]
theorem moved_chk {d x : Nat} {s s' : St} (h : Moved d s s') (hd : d < 2305843009213693952) (hx : x < 65536) : chk s' (x + d) = chk s x := by
  obtain ⟨any, top, seen⟩ := s
  obtain ⟨any', top', seen'⟩ := s'
  obtain ⟨h1, h2, h3, _, _⟩ := h
  simp only at h1 h2 h3
  subst h1 h2
  rw [chk_in _ _ (by omega), chk_in _ _ (by omega)]
  cases any' with
  | false => rfl
  | true =>
    obtain ⟨h4, h5⟩ := h3 rfl
    subst h4
    simp only [Bool.true_eq_false, false_or]
    rw [show top + d - (x + d) = top - x from by omega]
    by_cases h6 : top < x
    · rw [if_pos h6, if_pos (by omega)]
    · rw [if_neg h6, if_neg (by omega)]
theorem moved_tk {d x : Nat} {s s' : St} (h : Moved d s s') (hd : d < 2305843009213693952) (hx : x < 65536) : Moved d (tk s x) (tk s' (x + d)) := by
  have hc := moved_chk h hd hx
  have hk := tk_ok s x h.2.2.2.1
  have hk' := tk_ok s' (x + d) h.2.2.2.2
  obtain ⟨any, top, seen⟩ := s
  obtain ⟨any', top', seen'⟩ := s'
  obtain ⟨h1, h2, h3, h4, h5⟩ := h
  simp only at h1 h2 h3
  subst h1 h2
  obtain ⟨t1, t2, t3, t4⟩ := tk_eq ⟨any', top, seen'⟩ x
  obtain ⟨u1, u2, u3, u4⟩ := tk_eq ⟨any', top', seen'⟩ (x + d)
  rw [hc] at u1 u2 u3 u4
  by_cases h0 : chk ⟨any', top, seen'⟩ x ≠ 0
  · rw [t1 h0, u1 h0]
    exact ⟨rfl, rfl, h3, h4, h5⟩
  · have h0' : chk ⟨any', top, seen'⟩ x = 0 := by omega
    cases any' with
    | false =>
      rw [t2 h0' rfl] at hk ⊢
      rw [u2 h0' rfl] at hk' ⊢
      exact ⟨rfl, rfl, fun _ => ⟨rfl, hx⟩, hk, hk'⟩
    | true =>
      obtain ⟨h6, h7⟩ := h3 rfl
      subst h6
      by_cases h8 : top < x
      · rw [t3 h0' rfl h8] at hk ⊢
        rw [u3 h0' rfl (show top + d < x + d by omega)] at hk' ⊢
        refine ⟨rfl, ?_, fun _ => ⟨rfl, hx⟩, hk, hk'⟩
        show _ ||| 1 = _ ||| 1
        rw [show x + d - (top + d) = x - top from by omega]
      · rw [t4 h0' rfl h8] at hk ⊢
        rw [u4 h0' rfl (show ¬ top + d < x + d by omega)] at hk' ⊢
        refine ⟨rfl, ?_, fun _ => ⟨rfl, h7⟩, hk, hk'⟩
        show seen' ||| _ = seen' ||| _
        rw [show top + d - (x + d) = top - x from by omega]

def MRel (d : Nat) (w : World) (s s' : St) (wr : World) : Prop :=
  G wr w.heap.size s ∧ G wr (w.heap.size + 1) s' ∧ Moved d s s' ∧ Below w.heap.size w wr
theorem MRel.step {d x : Nat} {w wr w1 w2 : World} {s s' : St} (h : MRel d w s s' wr) (hd : d < 2305843009213693952) (hx : x < 65536) (g1 : G w1 w.heap.size (tk s x)) (t1 : wr.grownBy w1 (some w.heap.size))
    (g2 : G w2 (w.heap.size + 1) (tk s' (x + d))) (t2 : w1.grownBy w2 (some (w.heap.size + 1))) : MRel d w (tk s x) (tk s' (x + d)) w2 := by
  refine ⟨Own.grown g1 t2 (by simp), g2, moved_tk h.2.2.1 hd hx, ?_⟩
  have hb := h.2.2.2
  exact (hb.grown t1 hb.size (fun k hk => by cases hk; exact Nat.le_refl _)).grown t2 (Nat.le_trans hb.size t1.size) (fun k hk => by cases hk; omega)

set_option maxHeartbeats 1000000 in
theorem moved_walk (a : Option Addr) (n c : Nat) (zs : List Nat) (by_ : Nat) (w : World) (hl : Ints .u16 w a n zs) (hz : ∀ z ∈ zs, z < 65536) : Calls Try.prog 5 #[.slice a n c, .int .u64 by_] w fun e w' => e = .returned (.bool true) ∧ Below w.heap.size w w' := by
  obtain ⟨d, hd⟩ : ∃ d : Nat, d = by_ % 2305843009213693952 := ⟨_, rfl⟩
  have hdl : d < 2305843009213693952 := by omega
  have hdi : (by_ : Int) % 2305843009213693952 = (d : Int) := by omega
  have HD := Lib.hid hdi
  clear hd hdi
  have HL := Lib.hid hl
  have hn := hl.2.1
  clear hl
  have HZ := Lib.hid hz
  clear hz
  go_enter Try.func5, Try.ntmps5
  go_wp2_with fail
  refine (new_any _).mono ?_
  rintro e w' ⟨rfl, rfl⟩
  go_wp2_with fail
  refine (new_any _).mono ?_
  rintro e w' ⟨rfl, rfl⟩
  go_wp2_with fail
  refine (fixed_any _).mono ?_
  rintro e w1 ⟨rfl, hb1⟩
  have hM : MRel d w s0 s0 w1 := by
    have a1 := G_new w
    have a2 : G ((w.alloc (.cells #[.bool false, .int .u64 0, .int .u64 0] 49)).alloc (.cells #[.bool false, .int .u64 0, .int .u64 0] 49)) w.heap.size s0 := Own.alloc a1 _
    have a3 := G_new (w.alloc (.cells #[.bool false, .int .u64 0, .int .u64 0] 49))
    simp at a3
    refine ⟨Own.below a2 hb1 (by simp; omega), Own.below a3 hb1 (by simp), moved_new d, ?_⟩
    exact (((Below.refl _ _).alloc (Nat.le_refl _) _).alloc (by simp) _).trans (hb1.mono (by simp; omega))
  have HM := Lib.hid hM
  clear hM hb1
  go_wp2_with fail
  rw [HD.out]
  go_loopw [25] (fun i wr => ∃ (k : Nat) (s s' : St), k ≤ n ∧ i = .int .i64 k ∧ MRel d w s s' wr) (fun i _ => n - (intOf i).toNat)
  case atStart => exact ⟨0, s0, s0, by omega, rfl, HM.out⟩
  case round =>
    obtain ⟨k, s, s', hk, rfl, hM⟩ := hrel
    have HR := Lib.hid hM
    clear hM HM
    by_cases hkn : k < n
    · obtain ⟨b, off, rfl, hbl, hc⟩ := HL.out.2.2 (by omega)
      have hcell := hc k hkn
      have hx : zs.getD k 0 < 65536 := by
        rw [List.getD_eq_getElem?_getD, List.getElem?_eq_getElem (by rw [HL.out.1]; exact hkn)]
        exact HZ.out _ (List.getElem_mem _)
      obtain ⟨x, hxe⟩ : ∃ x, x = zs.getD k 0 := ⟨_, rfl⟩
      rw [← hxe] at hcell hx
      clear hxe hc
      have hcw : wr.cell? ⟨b, off + k, none⟩ = some (.int .u16 x) := (HR.out.2.2.2.cell hbl).trans hcell
      clear hcell
      by_cases hbr : 2000 < k
      · go_wp2_with fail
        go_ret
        exact ⟨rfl, HR.out.2.2.2⟩
      · have hbr' : (k : Int) ≤ 2000 := by omega
        go_wp2_with fail
        refine (take_any _ _ _ _ HR.out.1 HR.out.2.2.1.2.2.2.1).mono ?_
        rintro e w2 ⟨rfl, g2, t2⟩
        have G2 := Lib.hid g2
        have T2 := Lib.hid t2
        clear g2 t2
        go_wp2_with fail
        refine (take_at (Own.grown HR.out.2.1 T2.out (by simp)) HR.out.2.2.1.2.2.2.2 (n := x + d) (by omega) (moved_chk HR.out.2.2.1 hdl hx) rfl).mono ?_
        rintro e w3 ⟨rfl, g3, t3⟩
        have HS := Lib.hid (MRel.step HR.out hdl hx G2.out T2.out g3 t3)
        clear g3 t3
        go_wp2_with fail
        go_roundw
        case rel => exact ⟨k + 1, _, _, by omega, by go_num, HS.out⟩
        case measure => simp [intOf]; omega
    · obtain rfl : k = n := by omega
      go_wp2_with fail
      go_ret
      exact ⟨rfl, HR.out.2.2.2⟩
end Go.Proofs.Ytnjneljlphilnaa
