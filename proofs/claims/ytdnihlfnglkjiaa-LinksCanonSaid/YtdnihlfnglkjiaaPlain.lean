/- Links numbered anew, in plain Lean: what the document says, and its laws. -/
import Derived.Test.YtdnihlfnglkjiaaFind
import Derived.Test.YtdnihlfnglkjiaaGlyph
import Derived.Test.YtdnihlfnglkjiaaIntern
namespace Go.Proofs.Ytdnihlfnglkjiaa
open Go.RowKit

noncomputable def leads (t : List ByteArray) (n : Int) : ByteArray :=
  if 1 ≤ n ∧ n ≤ t.length ∧ may (t.getD (n.toNat - 1) ByteArray.empty) = true then t.getD (n.toNat - 1) ByteArray.empty else ByteArray.empty
noncomputable def addT (l : List ByteArray) (s : ByteArray) : List ByteArray := if s = ByteArray.empty ∨ 0 ≤ place l s then l else l ++ [s]
/-- The texts behind the first k cells. -/
noncomputable def tx (t : List ByteArray) (cs : List Glyph) : Nat → List ByteArray
  | 0 => []
  | k + 1 => addT (tx t cs k) (leads t (cs.getD k g0).l)
noncomputable def number (L : List ByteArray) (s : ByteArray) : Int := if s = ByteArray.empty then 0 else place L s + 1
noncomputable def renum (t L : List ByteArray) (c : Glyph) : Glyph := { c with l := number L (leads t c.l) }
noncomputable def canon (t : List ByteArray) (cs : List Glyph) : List Glyph := cs.map (renum t (tx t cs cs.length))
def Right (l : List ByteArray) (cs : List Glyph) : Prop := l.length ≤ 16 ∧ canon l cs = cs ∧ tx l cs cs.length = l
theorem may_empty : may ByteArray.empty = false := may_no fun h => absurd h.1 (by decide)
theorem place_le (xs : List ByteArray) (s : ByteArray) : -1 ≤ place xs s ∧ place xs s < xs.length := by
  rcases place_cases xs s with ⟨k, hk, h⟩ | h <;> omega
theorem place_get {xs : List ByteArray} {s : ByteArray} (h : 0 ≤ place xs s) : xs.getD (place xs s).toNat ByteArray.empty = s := by
  unfold place at *
  cases hf : xs.findIdx? (fun x => decide (x = s)) with
  | none => rw [hf] at h; simp at h
  | some k =>
    simp only
    obtain ⟨hk, hp, _⟩ := List.findIdx?_eq_some_iff_getElem.1 hf
    rw [Int.toNat_natCast, List.getD_eq_getElem?_getD, List.getElem?_eq_getElem hk]
    exact of_decide_eq_true hp
theorem place_mem {xs : List ByteArray} {s : ByteArray} : 0 ≤ place xs s ↔ s ∈ xs := by
  constructor
  · intro h
    have h1 := place_get h
    have h2 := (place_le xs s).2
    rw [List.getD_eq_getElem?_getD, List.getElem?_eq_getElem (by omega)] at h1
    exact h1 ▸ List.getElem_mem _
  · intro h
    unfold place
    cases hf : xs.findIdx? (fun x => decide (x = s)) with
    | none =>
      have := List.findIdx?_eq_none_iff.1 hf s h
      simp at this
    | some k => simp only; omega
theorem place_app {xs : List ByteArray} {s : ByteArray} (h : 0 ≤ place xs s) (ys : List ByteArray) : place (xs ++ ys) s = place xs s := by
  unfold place at *
  cases hf : xs.findIdx? (fun x => decide (x = s)) with
  | none => rw [hf] at h; simp at h
  | some k => rw [List.findIdx?_append, hf]; rfl
theorem place_new {xs : List ByteArray} {s : ByteArray} (h : ¬ 0 ≤ place xs s) : place (xs ++ [s]) s = xs.length := by
  refine place_at (by simp) (fun j hj => ?_) ?_
  · intro he
    apply h
    rw [place_mem]
    rw [List.getD_eq_getElem?_getD, List.getElem?_append_left hj, List.getElem?_eq_getElem hj] at he
    exact he ▸ List.getElem_mem _
  · rw [List.getD_eq_getElem?_getD, List.getElem?_append_right (Nat.le_refl _)]
    simp
theorem addT_place (l : List ByteArray) {s : ByteArray} (h : s ≠ ByteArray.empty) : 0 ≤ place (addT l s) s := by
  unfold addT
  split
  · rename_i k
    exact k.resolve_left h
  · rename_i k
    rw [place_new (fun k2 => k (.inr k2))]
    omega
theorem addT_app (l : List ByteArray) (s : ByteArray) : ∃ m, addT l s = l ++ m := by
  unfold addT
  split
  · exact ⟨[], by simp⟩
  · exact ⟨[s], rfl⟩
theorem tx_app (t : List ByteArray) (cs : List Glyph) (j : Nat) : ∀ d, ∃ m, tx t cs (j + d) = tx t cs j ++ m
  | 0 => ⟨[], by simp⟩
  | d + 1 => by
    obtain ⟨m, h⟩ := tx_app t cs j d
    obtain ⟨m2, h2⟩ := addT_app (tx t cs (j + d)) (leads t (cs.getD (j + d) g0).l)
    exact ⟨m ++ m2, by rw [← Nat.add_assoc, tx, h2, h, List.append_assoc]⟩
theorem number_tx (t : List ByteArray) (cs : List Glyph) {j n : Nat} (h : j < n) : number (tx t cs (j + 1)) (leads t (cs.getD j g0).l) = number (tx t cs n) (leads t (cs.getD j g0).l) := by
  obtain ⟨m, hm⟩ := tx_app t cs (j + 1) (n - (j + 1))
  rw [show j + 1 + (n - (j + 1)) = n from by omega] at hm
  unfold number
  split
  · rfl
  · rename_i hs
    have key : 0 ≤ place (tx t cs (j + 1)) (leads t (cs.getD j g0).l) := addT_place _ hs
    rw [hm, place_app key]
theorem addT_len (l : List ByteArray) (s : ByteArray) : (addT l s).length ≤ l.length + 1 := by
  unfold addT
  split
  · omega
  · simp
theorem tx_len (t : List ByteArray) (cs : List Glyph) : ∀ k, (tx t cs k).length ≤ k
  | 0 => Nat.le_refl _
  | k + 1 => Nat.le_trans (addT_len _ _) (Nat.succ_le_succ (tx_len t cs k))
theorem number_le (L : List ByteArray) (s : ByteArray) : 0 ≤ number L s ∧ number L s ≤ L.length := by
  unfold number
  have := place_le L s
  split <;> omega
theorem leads_may {t : List ByteArray} {n : Int} (h : leads t n ≠ ByteArray.empty) : may (leads t n) = true ∧ leads t n ∈ t := by
  unfold leads at *
  split
  · rename_i k
    refine ⟨k.2.2, ?_⟩
    rw [List.getD_eq_getElem?_getD, List.getElem?_eq_getElem (by omega)]
    exact List.getElem_mem _
  · rename_i k
    rw [if_neg k] at h
    exact absurd rfl h
theorem tx_all (t : List ByteArray) (cs : List Glyph) : ∀ k, ∀ s ∈ tx t cs k, may s = true ∧ s ∈ t
  | 0, s, h => absurd h (by simp [tx])
  | k + 1, s, h => by
    rw [tx, addT] at h
    split at h
    · exact tx_all t cs k s h
    · rename_i hc
      rcases List.mem_append.1 h with h1 | h1
      · exact tx_all t cs k s h1
      · rw [List.mem_singleton] at h1
        subst h1
        exact leads_may (fun e => hc (.inl e))
theorem tx_nodup (t : List ByteArray) (cs : List Glyph) : ∀ k, (tx t cs k).Nodup
  | 0 => List.nodup_nil
  | k + 1 => by
    rw [tx, addT]
    split
    · exact tx_nodup t cs k
    · rename_i hc
      rw [List.nodup_append]
      refine ⟨tx_nodup t cs k, by simp, fun a ha b hb => ?_⟩
      rw [List.mem_singleton] at hb
      subst hb
      intro e
      subst e
      exact hc (.inr (place_mem.2 ha))
theorem nodup_len : ∀ {L t : List ByteArray}, L.Nodup → (∀ s ∈ L, s ∈ t) → L.length ≤ t.length
  | [], _, _, _ => Nat.zero_le _
  | s :: L, t, hn, hs => by
    have h1 := hs s (by simp)
    rw [List.nodup_cons] at hn
    have h2 := nodup_len (t := t.filter fun x => decide (x ≠ s)) hn.2 fun x hx => List.mem_filter.2 ⟨hs x (List.mem_cons_of_mem _ hx), decide_eq_true fun e => hn.1 (by rw [← e]; exact hx)⟩
    have h3 : (t.filter fun x => decide (x ≠ s)).length < t.length := List.length_filter_lt_length_iff_exists.2 ⟨s, h1, by simp⟩
    simp only [List.length_cons]
    omega
theorem tx_fits (t : List ByteArray) (cs : List Glyph) (k : Nat) : (tx t cs k).length ≤ t.length := nodup_len (tx_nodup t cs k) fun s hs => (tx_all t cs k s hs).2
theorem canon_len (t : List ByteArray) (cs : List Glyph) : (canon t cs).length = cs.length := by simp [canon]
theorem canon_at (t : List ByteArray) {cs : List Glyph} {k : Nat} (h : k < cs.length) : (canon t cs).getD k g0 = renum t (tx t cs cs.length) (cs.getD k g0) := by
  unfold canon
  rw [List.getD_eq_getElem?_getD, List.getElem?_map, List.getD_eq_getElem?_getD, List.getElem?_eq_getElem h]
  rfl
theorem canon_at2 (t : List ByteArray) {cs : List Glyph} {k : Nat} (h : k < cs.length) : (canon t cs).getD k g0 = renum t (tx t cs (k + 1)) (cs.getD k g0) := by
  rw [canon_at t h]
  unfold renum
  rw [number_tx t cs h]
theorem glyphs_ext {xs ys : List Glyph} (h : xs.length = ys.length) (k : ∀ j, j < xs.length → xs.getD j g0 = ys.getD j g0) : xs = ys := by
  refine List.ext_getElem h fun j h1 h2 => ?_
  have := k j h1
  rwa [List.getD_eq_getElem?_getD, List.getD_eq_getElem?_getD, List.getElem?_eq_getElem h1, List.getElem?_eq_getElem h2] at this
/-- Behind Canon each cell leads to where it led. -/
theorem canon_leads (t : List ByteArray) {cs : List Glyph} {k : Nat} (h : k < cs.length) : leads (tx t cs cs.length) ((canon t cs).getD k g0).l = leads t (cs.getD k g0).l := by
  rw [canon_at t h]
  show leads _ (number (tx t cs cs.length) (leads t (cs.getD k g0).l)) = _
  by_cases hs : leads t (cs.getD k g0).l = ByteArray.empty
  · rw [hs]
    unfold number
    rw [if_pos rfl]
    unfold leads
    rw [if_neg (by omega)]
  · have h1 : 0 ≤ place (tx t cs cs.length) (leads t (cs.getD k g0).l) := by
      obtain ⟨m, hm⟩ := tx_app t cs (k + 1) (cs.length - (k + 1))
      rw [show k + 1 + (cs.length - (k + 1)) = cs.length from by omega] at hm
      have := addT_place (tx t cs k) hs
      rw [hm, place_app (by exact this)]
      exact this
    have h2 := place_get h1
    have h3 := (place_le (tx t cs cs.length) (leads t (cs.getD k g0).l)).2
    unfold number
    rw [if_neg hs]
    generalize hL : tx t cs cs.length = L at *
    generalize hq : leads t (cs.getD k g0).l = s at *
    have h4 : (place L s + 1).toNat - 1 = (place L s).toNat := by omega
    have h5 : may s = true := by
      have h6 := leads_may (t := t) (n := (cs.getD k g0).l) (by rw [hq]; exact hs)
      rw [hq] at h6
      exact h6.1
    unfold leads
    rw [h4, h2, if_pos ⟨by omega, by omega, h5⟩]
theorem canon_tx (t : List ByteArray) (cs : List Glyph) : ∀ k, k ≤ cs.length → tx (tx t cs cs.length) (canon t cs) k = tx t cs k
  | 0, _ => rfl
  | k + 1, h => by rw [tx, tx, canon_tx t cs k (by omega), canon_leads t (by omega)]
theorem canon_once (t : List ByteArray) (cs : List Glyph) : tx (tx t cs cs.length) (canon t cs) (canon t cs).length = tx t cs cs.length ∧ canon (tx t cs cs.length) (canon t cs) = canon t cs := by
  have h1 : tx (tx t cs cs.length) (canon t cs) (canon t cs).length = tx t cs cs.length := by rw [canon_len]; exact canon_tx t cs _ (Nat.le_refl _)
  refine ⟨h1, glyphs_ext (canon_len _ _) fun j hj => ?_⟩
  rw [canon_len] at hj
  rw [canon_at _ hj, h1]
  rw [canon_len] at hj
  unfold renum
  rw [canon_leads t hj]
  conv => rhs; rw [canon_at t hj]
  rw [canon_at t hj]
  rfl
theorem canon_right (t : List ByteArray) (cs : List Glyph) (h : t.length ≤ 16) : Right (tx t cs cs.length) (canon t cs) :=
  ⟨Nat.le_trans (tx_fits t cs _) h, (canon_once t cs).2, (canon_once t cs).1⟩
end Go.Proofs.Ytdnihlfnglkjiaa
