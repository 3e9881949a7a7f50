/- The document's table without what isn't used. -/
import Derived.Test.YtdnihlfnglkjiaaSweeps
namespace Go.Proofs.Ytdnihlfnglkjiaa
open Go.RowKit
attribute [local go_sem] alloc_drewN setCell_drewN


/-- The first q texts of the table behind all numbers that are used. -/
def Part (xs : List ByteArray) (us : List Nat) (q : Nat) (zs : List ByteArray) : Prop :=
  zs.length = q ∧ q ≤ xs.length ∧ ∀ j, j < q → ((∃ r, r < us.length ∧ us.getD r 0 = j + 1) → zs.getD j ByteArray.empty = xs.getD j ByteArray.empty) ∧ ((¬ ∃ r, r < us.length ∧ us.getD r 0 = j + 1) → zs.getD j ByteArray.empty = ByteArray.empty)
theorem getD_one (zs : List ByteArray) (j : Nat) (x : ByteArray) : (zs ++ [x]).getD j ByteArray.empty = if j = zs.length then x else zs.getD j ByteArray.empty := by
  rw [List.getD_eq_getElem?_getD, List.getD_eq_getElem?_getD, List.getElem?_append]
  by_cases h : j < zs.length
  · rw [if_pos h, if_neg (by omega)]
  · rw [if_neg h]
    by_cases h2 : j = zs.length
    · subst h2
      simp
    · rw [if_neg h2, List.getElem?_eq_none (by simp; omega), List.getElem?_eq_none (by omega)]
theorem Part.next {xs : List ByteArray} {us : List Nat} {q : Nat} {zs : List ByteArray} (h : Part xs us q zs) (hq : q < xs.length) {x : ByteArray} (h1 : (∃ r, r < us.length ∧ us.getD r 0 = q + 1) → x = xs.getD q ByteArray.empty) (h2 : (¬ ∃ r, r < us.length ∧ us.getD r 0 = q + 1) → x = ByteArray.empty) : Part xs us (q + 1) (zs ++ [x]) := by
  refine ⟨by simp [h.1], hq, fun j hj => ?_⟩
  rw [getD_one, h.1]
  by_cases hjq : j = q
  · subst hjq
    rw [if_pos rfl]
    exact ⟨h1, h2⟩
  · rw [if_neg hjq]
    exact h.2.2 j (by omega)
theorem Trim.empty {zs : List ByteArray} {l : Nat} (h : Trim zs l) : Trim (zs ++ [ByteArray.empty]) l := by
  refine ⟨by simp; have := h.1; omega, fun j h1 h2 => ?_, ?_⟩
  · rw [getD_one]
    split
    · rfl
    · exact h.2.1 j h1 (by simp at h2; omega)
  · rcases h.2.2 with h0 | h0
    · exact .inl h0
    · rcases Nat.eq_zero_or_pos l with h3 | h3
      · exact .inl h3
      · right
        have := h.1
        rw [getD_one, if_neg (by omega)]
        exact h0
theorem Trim.full {zs : List ByteArray} {x : ByteArray} (hx : x ≠ ByteArray.empty) : Trim (zs ++ [x]) (zs.length + 1) := by
  refine ⟨by simp, fun j h1 h2 => by simp at h2; omega, .inr ?_⟩
  rw [Nat.add_sub_cancel, getD_one, if_pos rfl]
  exact hx
theorem srow_take {w : World} {base n c l : Nat} {a : Option Addr} {zs : List ByteArray} (h : SRow w base (.slice a n c) zs) (hl : l ≤ n) : SRow w base (.slice a l c) (zs.take l) := by
  have hz : zs.length = n := by
    rcases h.2 with ⟨h1, h2⟩ | ⟨g, cap, cur, h1, _⟩
    · injection h1 with _ h1 _
      omega
    · injection h1 with _ h1 _
      exact h1.symm
  have hl2 : (zs.take l).length = l := by rw [List.length_take]; omega
  refine ⟨by simp [strs], ?_⟩
  rcases h.2 with ⟨h1, h2⟩ | ⟨g, cap, cur, h1, h2, h3, h4, h5, h6, h7⟩
  · injection h1 with h0 h1 h3
    subst h0 h1 h3
    obtain rfl : l = 0 := by omega
    exact .inl ⟨rfl, by simp⟩
  · injection h1 with h0 h1 h8
    subst h0 h8
    refine .inr ⟨g, c, cur, by rw [hl2], h2, h3, by omega, h5, h6, ?_⟩
    rw [hl2]
    rw [hz] at h7
    have : strs (zs.take l) = (strs zs).take l := by simp [strs, List.map_take]
    rw [this, ← h7, List.take_take]
    congr 1
    omega
theorem srow_cap {w : World} {base n c : Nat} {a : Option Addr} {zs : List ByteArray} (h : SRow w base (.slice a n c) zs) : n ≤ c := by
  rcases h.2 with ⟨h1, _⟩ | ⟨g, cap, cur, h1, _, _, h4, _⟩
  · injection h1 with _ h1 h2
    omega
  · injection h1 with _ h1 h2
    omega
theorem Part.masked {xs : List ByteArray} {us : List Nat} {zs : List ByteArray} (h : Part xs us xs.length zs) : Masked xs us us.length zs := ⟨h.1, h.2.2⟩
def RsRel (w : World) (xs : List ByteArray) (us : List Nat) (q : Nat) (zs : List ByteArray) (v : Value) (l : Nat) (wr : World) : Prop :=
  Part xs us q zs ∧ Trim zs l ∧ SRow wr w.heap.size v zs ∧ Below w.heap.size w wr
theorem RsRel.next {w wr w1 : World} {xs zs : List ByteArray} {us : List Nat} {q l l' : Nat} {v v1 : Value} {x : ByteArray} (h : RsRel w xs us q zs v l wr) (hq : q < xs.length) (h1 : (∃ r, r < us.length ∧ us.getD r 0 = q + 1) → x = xs.getD q ByteArray.empty) (h2 : (¬ ∃ r, r < us.length ∧ us.getD r 0 = q + 1) → x = ByteArray.empty)
    (ht : Trim (zs ++ [x]) l') (r1 : SRow w1 w.heap.size v1 (zs ++ [x])) (b1 : Below w.heap.size (wr.alloc (.cells #[.string x] 9)) w1) : RsRel w xs us (q + 1) (zs ++ [x]) v1 l' w1 :=
  ⟨h.1.next hq h1 h2, ht, r1, (h.2.2.2.alloc h.2.2.2.size _).trans b1⟩
theorem RsRel.draws {w wr : World} {xs zs : List ByteArray} {us : List Nat} {q l : Nat} {v : Value} (h : RsRel w xs us q zs v l wr) (m : Nat) : RsRel w xs us q zs v l (wr.drewN m) := ⟨h.1, h.2.1, h.2.2.1.draws m, below_drewN h.2.2.2 m⟩
def Used (us : List Nat) (q r : Nat) (t : Bool) : Prop := t = true ↔ ∃ k, k < r ∧ us.getD k 0 = q + 1
set_option maxHeartbeats 1000000 in
theorem ref_sweep_any (a b : Option Addr) (n c k d : Nat) (xs : List ByteArray) (us : List Nat) (w : World) (hl : Strs w a n xs) (hk : Ints .u16 w b k us) (hm : n ≤ 60000) (hus : ∀ u ∈ us, u < 65536) : Calls Try.prog 11 #[.slice a n c, .slice b k d] w (SweepPost xs us w) := by
  have HL := Lib.hid hl
  have HK := Lib.hid hk
  have hn := hl.2.1
  have hkn := hk.2.1
  have HUS := Lib.hid hus
  obtain rfl := hl.1
  obtain rfl := hk.1
  clear hl hk hus
  go_enter Try.func11, Try.ntmps11
  go_wp2_with fail
  have HB : Hid (RsRel w xs us 0 [] (.slice (some ⟨w.heap.size, 0, none⟩) 0 0) 0 (w.alloc (.cells #[] 9))) :=
    ⟨⟨rfl, by omega, fun j hj => absurd hj (by omega)⟩, ⟨by simp, fun j _ h => absurd h (by simp), .inl rfl⟩, empty_row w, (Below.refl _ _).alloc (Nat.le_refl _) _⟩
  go_loopw [5, 6, 7] (fun v vl i wr => ∃ (q l : Nat) (zs : List ByteArray), q ≤ xs.length ∧ i = .int .i64 q ∧ vl = .int .i64 l ∧ Hid (RsRel w xs us q zs v l wr)) (fun _ _ i _ => xs.length - (intOf i).toNat)
  case atStart => exact ⟨0, 0, [], by omega, rfl, rfl, HB⟩
  case round =>
    obtain ⟨q, l, zs, hq, rfl, rfl, HR⟩ := hrel
    obtain ⟨av, cv, hv, _⟩ := HR.out.2.2.1.strs
    subst hv
    clear HB
    have hzq := HR.out.1.1
    by_cases hqn : q < xs.length
    · go_wp2_with fail
      go_loopw [8, 9] (fun vt vi wz => ∃ (r m : Nat) (t : Bool), r ≤ us.length ∧ vi = .int .i64 r ∧ vt = .bool t ∧ Hid (Used us q r t) ∧ wz = wr.drewN m) (fun _ i _ => us.length - (intOf i).toNat)
      case atStart => exact ⟨0, 0, false, by omega, rfl, rfl, ⟨fun h => (by cases h), fun ⟨k, h, _⟩ => absurd h (by omega)⟩, rfl⟩
      case round =>
        obtain ⟨r, m, t, hr, rfl, rfl, HT, rfl⟩ := hrel
        by_cases hrn : r < us.length
        · obtain ⟨b1, o1, rfl, hb1, hc1⟩ := HK.out.2.2 (by omega)
          have e1 := (HR.out.2.2.2.cell hb1).trans (hc1 r hrn)
          have hu16 : us.getD r 0 < 65536 := by
            rw [List.getD_eq_getElem?_getD, List.getElem?_eq_getElem hrn]
            exact HUS.out _ (List.getElem_mem _)
          obtain ⟨u, hue⟩ : ∃ u, us.getD r 0 = u := ⟨_, rfl⟩
          rw [hue] at e1 hu16
          have HU := Lib.hid hue
          clear hc1 hue
          cases t with
          | true =>
            have HN : Hid (Used us q (r + 1) true) := ⟨fun _ => (by obtain ⟨k, h1, h2⟩ := HT.out.1 rfl; exact ⟨k, by omega, h2⟩), fun _ => rfl⟩
            go_wp2_with fail
            go_roundw
            case rel => exact ⟨r + 1, m, true, by omega, by go_num, rfl, HN, rfl⟩
            case measure => simp [intOf]; omega
          | false =>
            by_cases hu : u = q + 1
            · have hub : ((u : Int) == (q : Int) + 1) = true := by rw [hu]; simp
              have HN : Hid (Used us q (r + 1) true) := ⟨fun _ => ⟨r, by omega, HU.out.trans hu⟩, fun _ => rfl⟩
              clear hu
              go_wp2_with fail
              go_roundw
              case rel => exact ⟨r + 1, m, true, by omega, by go_num, rfl, HN, rfl⟩
              case measure => simp [intOf]; omega
            · have hub : ((u : Int) == (q : Int) + 1) = false := beq_eq_false_iff_ne.2 (fun h => hu (by omega))
              have HN : Hid (Used us q (r + 1) false) := ⟨fun h => (by cases h), fun ⟨k, h1, h2⟩ => (by
                rcases Nat.lt_or_ge k r with h3 | h3
                · exact HT.out.2 ⟨k, h3, h2⟩
                · obtain rfl : k = r := by omega
                  exact absurd (HU.out.symm.trans h2) hu)⟩
              clear hu
              go_wp2_with fail
              go_roundw
              case rel => exact ⟨r + 1, m, false, by omega, by go_num, rfl, HN, rfl⟩
              case measure => simp [intOf]; omega
        · obtain rfl : r = us.length := by omega
          obtain ⟨b2, o2, rfl, hb2, hc2⟩ := HL.out.2.2 (by omega)
          have e2 := (HR.out.2.2.2.cell hb2).trans (hc2 q hqn)
          obtain ⟨x, hxe⟩ : ∃ x, xs.getD q ByteArray.empty = x := ⟨_, rfl⟩
          rw [hxe] at e2
          have HX := Lib.hid hxe
          clear hc2 hxe
          have HRD := Lib.hid (HR.out.draws m)
          have hl3 : zs.length ≤ 1000000 := by omega
          cases t with
          | true =>
            by_cases hx : x = ByteArray.empty
            · subst hx
              go_wp2_with (first
                | (at_builtin; refine app_one rfl _ _ rfl rfl (by exact HRD.out.2.2.1.alloc _) rfl (by exact Own.cell (Own.new (wr.drewN m) 9 #[.string ByteArray.empty]) 0) hl3 (by have := HR.out.2.2.2.size; simp; omega) ?_; intro v1 w1 r1 bl1)
                | go_in)
              have HN := Lib.hid (HRD.out.next hqn (fun _ => HX.out.symm) (fun h => absurd (HT.out.1 rfl) h) HR.out.2.1.empty r1 bl1)
              clear r1 bl1
              go_roundw
              case rel => exact ⟨q + 1, l, _, by omega, by go_num, rfl, HN⟩
              case measure => simp [intOf]; omega
            · have hx1 := txt_ne hx
              have hx2 := txt_empty hx
              have HXN := Lib.hid hx
              clear hx
              go_wp2_with (first
                | (at_builtin; refine app_one rfl _ _ rfl rfl (by exact HRD.out.2.2.1.alloc _) rfl (by exact Own.cell (Own.new (wr.drewN m) 9 #[.string x]) 0) hl3 (by have := HR.out.2.2.2.size; simp; omega) ?_; intro v1 w1 r1 bl1)
                | go_in)
              have HN := Lib.hid (HRD.out.next hqn (fun _ => HX.out.symm) (fun h => absurd (HT.out.1 rfl) h) (Trim.full HXN.out) r1 bl1)
              clear r1 bl1
              go_roundw
              case rel => exact ⟨q + 1, (zs.length + 1), _, by omega, by go_num, (by rw [hzq]; rfl), HN⟩
              case measure => simp [intOf]; omega
          | false =>
            · go_wp2_with (first
                | (at_builtin; refine app_one rfl _ _ rfl rfl (by exact HRD.out.2.2.1.alloc _) rfl (by exact Own.cell (Own.new (wr.drewN m) 9 #[.string ByteArray.empty]) 0) hl3 (by have := HR.out.2.2.2.size; simp; omega) ?_; intro v1 w1 r1 bl1)
                | go_in)
              have HN := Lib.hid (HRD.out.next hqn (fun h => absurd (HT.out.2 h) (by simp)) (fun _ => rfl) HR.out.2.1.empty r1 bl1)
              clear r1 bl1
              go_roundw
              case rel => exact ⟨q + 1, l, _, by omega, by go_num, rfl, HN⟩
              case measure => simp [intOf]; omega
    · obtain rfl : q = xs.length := by omega
      have hlz := HR.out.2.1.1
      have hcv := srow_cap HR.out.2.2.1
      have hlc : l ≤ cv := by omega
      go_wp2_with fail
      go_ret
      exact ⟨_, zs, l, rfl, HR.out.1.masked, HR.out.2.1, srow_take HR.out.2.2.1 hlz, HR.out.2.2.2⟩
end Go.Proofs.Ytdnihlfnglkjiaa
