/- A table without what isn't used. -/
import Derived.Test.YtdnihlfnglkjiaaSame
namespace Go.Proofs.Ytdnihlfnglkjiaa
open Go.RowKit
attribute [local go_sem] alloc_drewN setCell_drewN


/-- What is left of a table behind the first k numbers of those that are used. -/
def Masked (xs : List ByteArray) (us : List Nat) (k : Nat) (zs : List ByteArray) : Prop :=
  zs.length = xs.length ∧ ∀ j, j < xs.length → ((∃ q, q < k ∧ us.getD q 0 = j + 1) → zs.getD j ByteArray.empty = xs.getD j ByteArray.empty) ∧ ((¬ ∃ q, q < k ∧ us.getD q 0 = j + 1) → zs.getD j ByteArray.empty = ByteArray.empty)
theorem getD_set (zs : List ByteArray) (p j : Nat) (x : ByteArray) (hp : p < zs.length) : (zs.set p x).getD j ByteArray.empty = if j = p then x else zs.getD j ByteArray.empty := by
  rw [List.getD_eq_getElem?_getD, List.getD_eq_getElem?_getD, List.getElem?_set]
  by_cases h : p = j
  · subst h
    rw [if_pos rfl, if_pos hp, if_pos rfl]
    rfl
  · rw [if_neg h, if_neg (Ne.symm h)]
theorem Masked.start (xs : List ByteArray) (us : List Nat) : Masked xs us 0 (List.replicate xs.length ByteArray.empty) := by
  refine ⟨by simp, fun j hj => ⟨fun ⟨q, h, _⟩ => absurd h (by omega), fun _ => ?_⟩⟩
  rw [List.getD_eq_getElem?_getD, List.getElem?_replicate, if_pos hj]
  rfl
theorem Masked.put {xs : List ByteArray} {us : List Nat} {k p : Nat} {zs : List ByteArray} (h : Masked xs us k zs) (hu : us.getD k 0 = p + 1) (hp : p < xs.length) : Masked xs us (k + 1) (zs.set p (xs.getD p ByteArray.empty)) := by
  refine ⟨by simp [h.1], fun j hj => ?_⟩
  rw [getD_set _ _ _ _ (by rw [h.1]; exact hp)]
  by_cases hjp : j = p
  · subst hjp
    rw [if_pos rfl]
    exact ⟨fun _ => rfl, fun hn => absurd ⟨k, by omega, hu⟩ hn⟩
  · rw [if_neg hjp]
    refine ⟨fun ⟨q, hq, he⟩ => (h.2 j hj).1 ⟨q, ?_, he⟩, fun hn => (h.2 j hj).2 fun ⟨q, hq, he⟩ => hn ⟨q, by omega, he⟩⟩
    rcases Nat.lt_or_ge q k with h1 | h1
    · exact h1
    · obtain rfl : q = k := by omega
      omega
theorem Masked.skip {xs : List ByteArray} {us : List Nat} {k : Nat} {zs : List ByteArray} (h : Masked xs us k zs) (hu : us.getD k 0 = 0 ∨ xs.length < us.getD k 0) : Masked xs us (k + 1) zs := by
  refine ⟨h.1, fun j hj => ⟨fun ⟨q, hq, he⟩ => (h.2 j hj).1 ⟨q, ?_, he⟩, fun hn => (h.2 j hj).2 fun ⟨q, hq, he⟩ => hn ⟨q, by omega, he⟩⟩⟩
  rcases Nat.lt_or_ge q k with h1 | h1
  · exact h1
  · obtain rfl : q = k := by omega
    omega
def SwRel (w : World) (xs : List ByteArray) (us : List Nat) (k : Nat) (zs : List ByteArray) (wr : World) : Prop :=
  Masked xs us k zs ∧ Own wr w.heap.size 9 (strs zs).toArray ∧ Below w.heap.size w wr
theorem own_made {w w1 : World} {n : Nat} (o1 : w1.ownsRow w.heap.size 9 1 (.slice (some ⟨w.heap.size, 0, none⟩) n n) n (madeCells (Value.string ByteArray.empty).cells (n * 1)).toList) : Own w1 w.heap.size 9 (strs (List.replicate n ByteArray.empty)).toArray := by
  rcases o1.2 with ⟨h1, _⟩ | ⟨g', cap, cur, h1, _, h3, _, _, h6, h7⟩
  · cases h1
  · injection h1 with h1 _ h2
    injection h1 with h1
    injection h1 with h1
    subst h1 h2
    have hc : cur.toList = strs (List.replicate n ByteArray.empty) := by
      rw [List.take_of_length_le (by simp [h6])] at h7
      rw [h7]
      simp only [madeCells, strs, Value.cells, Nat.mul_one]
      refine List.ext_getElem (by simp) fun j h1 h2 => ?_
      simp [Nat.mod_one]
    show w1.heap[w.heap.size]? = _
    rw [h3, ← hc]
theorem SwRel.put {w wr : World} {xs : List ByteArray} {us : List Nat} {k p : Nat} {zs : List ByteArray} (h : SwRel w xs us k zs wr) (hu : us.getD k 0 = p + 1) (hp : p < xs.length) : SwRel w xs us (k + 1) (zs.set p (xs.getD p ByteArray.empty)) (wr.setCell ⟨w.heap.size, p, none⟩ (.string (xs.getD p ByteArray.empty))) := by
  refine ⟨h.1.put hu hp, ?_, h.2.2.setCell (p := ⟨w.heap.size, p, none⟩) (Nat.le_refl _) _⟩
  have := Own.store h.2.1 p (.string (xs.getD p ByteArray.empty))
  have e : ((strs zs).toArray.setIfInBounds p (.string (xs.getD p ByteArray.empty))) = (strs (zs.set p (xs.getD p ByteArray.empty))).toArray := by simp [strs, List.map_set]
  rw [e] at this
  exact this
theorem SwRel.draws {w wr : World} {xs : List ByteArray} {us : List Nat} {k : Nat} {zs : List ByteArray} (h : SwRel w xs us k zs wr) (m : Nat) : SwRel w xs us k zs (wr.drewN m) := ⟨h.1, Own.draws h.2.1 m, below_drewN h.2.2 m⟩
/-- How long a table is without what is empty at its end. -/
def Trim (zs : List ByteArray) (l : Nat) : Prop := l ≤ zs.length ∧ (∀ j, l ≤ j → j < zs.length → zs.getD j ByteArray.empty = ByteArray.empty) ∧ (l = 0 ∨ zs.getD (l - 1) ByteArray.empty ≠ ByteArray.empty)
theorem Trim.one {zs : List ByteArray} {l m : Nat} (h : Trim zs l) (k : Trim zs m) : l = m := by
  rcases Nat.lt_trichotomy l m with hh | hh | hh
  · rcases k.2.2 with h0 | h0
    · omega
    · exact absurd (h.2.1 (m - 1) (by omega) (by have := k.1; omega)) h0
  · exact hh
  · rcases h.2.2 with h0 | h0
    · omega
    · exact absurd (k.2.1 (l - 1) (by omega) (by have := h.1; omega)) h0
theorem Masked.one {xs : List ByteArray} {us : List Nat} {k : Nat} {zs ys : List ByteArray} (h : Masked xs us k zs) (h' : Masked xs us k ys) : zs = ys := by
  refine same_yes (by rw [h.1, h'.1]) fun j hj => ?_
  rw [h.1] at hj
  by_cases hq : ∃ q, q < k ∧ us.getD q 0 = j + 1
  · rw [(h.2 j hj).1 hq, (h'.2 j hj).1 hq]
  · rw [(h.2 j hj).2 hq, (h'.2 j hj).2 hq]
def SweepPost (xs : List ByteArray) (us : List Nat) (w : World) (e : Ending) (w' : World) : Prop := ∃ (v' : Value) (zs : List ByteArray) (l : Nat), e = .returned v' ∧ Masked xs us us.length zs ∧ Trim zs l ∧ SRow w' w.heap.size v' (zs.take l) ∧ Below w.heap.size w w'
theorem row_of {w : World} {g n l : Nat} {zs : List ByteArray} (h : Own w g 9 (strs zs).toArray) (hn : zs.length = n) (hl : l ≤ n) (hm : n ≤ 1000000) : SRow w g (.slice (some ⟨g, 0, none⟩) l n) (zs.take l) := by
  have hl2 : (zs.take l).length = l := by rw [List.length_take]; omega
  refine ⟨by simp [strs], .inr ⟨g, n, _, by rw [hl2], Nat.le_refl _, h, by omega, by unfold maxLen; omega, by simp [strs]; omega, ?_⟩⟩
  rw [hl2]
  simp [strs, List.map_take]
theorem txt_empty {x : ByteArray} (h : x ≠ ByteArray.empty) : x.toList.isEmpty = false := by
  cases hh : x.toList.isEmpty with
  | false => rfl
  | true =>
    exfalso
    apply h
    rw [List.isEmpty_iff, ByteArray.toList_eq] at hh
    exact WideShapes.bytes_inj (hh.trans rfl)
set_option maxHeartbeats 1000000 in
theorem sweep_any (a b : Option Addr) (n c k d : Nat) (xs : List ByteArray) (us : List Nat) (w : World) (hl : Strs w a n xs) (hk : Ints .u16 w b k us) (hm : n ≤ 60000) (hus : ∀ u ∈ us, u < 65536) : Calls Try.prog 10 #[.slice a n c, .slice b k d] w (SweepPost xs us w) := by
  have HL := Lib.hid hl
  have HK := Lib.hid hk
  have hn := hl.2.1
  have hkn := hk.2.1
  obtain rfl := hl.1
  obtain rfl := hk.1
  clear hl hk
  go_enter Try.func10, Try.ntmps10
  go_wp2_with (first
    | (at_make; refine wpList_make_full _ rfl _ _ 23 rfl w.heap.size 9 _ _ 1 Try.underlying23 infoE zeroE (by kernel_rfl) .i64 .i64 _ _ xs.length rfl rfl rfl rfl (by rw [bytes9]; omega) (by unfold maxLen; omega) (Nat.le_refl _) ?_; intro w1 o1 g1; have HB : Hid (SwRel w xs us 0 (List.replicate xs.length ByteArray.empty) w1) := ⟨Masked.start xs us, own_made o1, below_none g1⟩; clear o1 g1)
    | fail)
  go_loopw [13] (fun i wr => ∃ (k : Nat) (zs : List ByteArray), k ≤ us.length ∧ i = .int .i64 k ∧ Hid (SwRel w xs us k zs wr)) (fun i _ => us.length - (intOf i).toNat)
  case atStart => exact ⟨0, _, by omega, rfl, HB⟩
  case round =>
    obtain ⟨k, zs, hk, rfl, HR⟩ := hrel
    by_cases hkn : k < us.length
    · obtain ⟨b1, o1, rfl, hb1, hc1⟩ := HK.out.2.2 (by omega)
      have e1 := (HR.out.2.2.cell hb1).trans (hc1 k hkn)
      have hu16 : us.getD k 0 < 65536 := by
        rw [List.getD_eq_getElem?_getD, List.getElem?_eq_getElem hkn]
        exact hus _ (List.getElem_mem _)
      obtain ⟨u, hue⟩ : ∃ u, us.getD k 0 = u := ⟨_, rfl⟩
      rw [hue] at e1 hu16
      have HU := Lib.hid hue
      clear hc1 hue HB
      rcases Nat.eq_zero_or_pos u with rfl | hu0
      · have HN : Hid (SwRel w xs us (k + 1) zs wr) := ⟨HR.out.1.skip (.inl HU.out), HR.out.2⟩
        go_wp2_with fail
        go_roundw
        case rel => exact ⟨k + 1, zs, by omega, by go_num, HN⟩
        case measure => simp [intOf]; omega
      · obtain ⟨p, rfl⟩ : ∃ p, u = p + 1 := ⟨u - 1, by omega⟩
        have hd1 : decide ((1 : Int) ≤ (p : Int) + 1) = true := decide_eq_true (by omega)
        by_cases hp : p < xs.length
        · have hd2 : decide ((p : Int) + 1 ≤ (xs.length : Int)) = true := decide_eq_true (by omega)
          obtain ⟨b2, o2, rfl, hb2, hc2⟩ := HL.out.2.2 (by omega)
          have e2 := (HR.out.2.2.cell hb2).trans (hc2 p hp)
          have hzl : p < zs.length := by rw [HR.out.1.1]; exact hp
          have e3 := Own.cell HR.out.2.1 p
          have f3 := Own.frozen HR.out.2.1 p
          rw [List.getElem?_toArray, strs_at hzl] at e3
          have HN := Lib.hid (HR.out.put HU.out hp)
          obtain ⟨x, hxe⟩ : ∃ x, xs.getD p ByteArray.empty = x := ⟨_, rfl⟩
          rw [hxe] at e2 HN
          clear hc2 hxe hzl
          go_wp2_with fail
          go_roundw
          case rel => exact ⟨k + 1, _, by omega, by go_num, HN⟩
          case measure => simp [intOf]; omega
        · have hd2 : decide ((p : Int) + 1 ≤ (xs.length : Int)) = false := decide_eq_false (by omega)
          have HN : Hid (SwRel w xs us (k + 1) zs wr) := ⟨HR.out.1.skip (.inr (by rw [HU.out]; omega)), HR.out.2⟩
          clear hp
          go_wp2_with fail
          go_roundw
          case rel => exact ⟨k + 1, zs, by omega, by go_num, HN⟩
          case measure => simp [intOf]; omega
    · obtain rfl : k = us.length := by omega
      go_wp2_with fail
      go_loopw [5] (fun v wz => ∃ (l : Nat), l ≤ xs.length ∧ v = .slice (some ⟨w.heap.size, 0, none⟩) l xs.length ∧ Hid (SwRel w xs us us.length zs wz ∧ ∀ j, l ≤ j → j < zs.length → zs.getD j ByteArray.empty = ByteArray.empty)) (fun v _ => match v with | .slice _ n _ => n | _ => 0)
      case atStart => exact ⟨xs.length, Nat.le_refl _, rfl, HR.out, fun j h1 h2 => absurd h2 (by rw [HR.out.1.1]; omega)⟩
      case round =>
        obtain ⟨l, hlx, rfl, HS⟩ := hrel
        by_cases hl0 : 0 < l
        · obtain ⟨p, rfl⟩ : ∃ p, l = p + 1 := ⟨l - 1, by omega⟩
          have hzl : p < zs.length := by rw [HS.out.1.1.1]; omega
          have e3 := Own.cell HS.out.1.2.1 p
          rw [List.getElem?_toArray, strs_at hzl] at e3
          have hd1 : decide ((0 : Int) < (p : Int) + 1) = true := decide_eq_true (by omega)
          obtain ⟨x, hxe⟩ : ∃ x, zs.getD p ByteArray.empty = x := ⟨_, rfl⟩
          rw [hxe] at e3
          have HX := Lib.hid hxe
          clear hxe hzl hl0
          by_cases hx : x = ByteArray.empty
          · subst hx
            go_wp2_with fail
            go_roundw
            case rel =>
              refine ⟨p, by omega, rfl, HS.out.1, fun j h1 h2 => ?_⟩
              rcases Nat.lt_or_ge p j with h3 | h3
              · exact HS.out.2 j (by omega) h2
              · obtain rfl : j = p := by omega
                exact HX.out
            case measure => exact Nat.lt_succ_self p
          · have hx' := txt_ne hx
            have hx2 := txt_empty hx
            have HXN := Lib.hid hx
            clear hx
            go_wp2_with fail
            go_ret
            exact ⟨_, zs, p + 1, rfl, HS.out.1.1, ⟨by rw [HS.out.1.1.1]; omega, HS.out.2, .inr (by rw [Nat.add_sub_cancel, HX.out]; exact HXN.out)⟩, row_of HS.out.1.2.1 HS.out.1.1.1 hlx (by omega), HS.out.1.2.2⟩
        · obtain rfl : l = 0 := by omega
          clear hl0
          go_wp2_with fail
          go_ret
          exact ⟨_, zs, 0, rfl, HS.out.1.1, ⟨by omega, HS.out.2, .inl rfl⟩, row_of HS.out.1.2.1 HS.out.1.1.1 hlx (by omega), HS.out.1.2.2⟩
end Go.Proofs.Ytdnihlfnglkjiaa
