/- A slice of unsigned numbers that came in, read as a list. -/
import Derived.Test.YtdnihlfnglkjiaaInts
import Derived.Test.YtdnihlfnglkjiaaReg
import Derived.WalkKit
import Derived.ProofKit
import Derived.OpenShut
namespace Go.Proofs.Ytdnihlfnglkjiaa
open Go.ChangeShapes Go.WideShapes Go.ChangeAt Go.RowKit

theorem ints_some {k : IntKind} {W : World} {x : Addr} {len cap : Nat} {zs : List Int} (hl : len ≤ cap) (hm : cap ≤ maxLen) (hz : zs.length = cap)
    (hcell : ∀ i, i < zs.length → W.cell? (x.add i) = some (.int k (zs.getD i 0))) (hnn : ∀ n ∈ zs, 0 ≤ n) : Ints k W (some x) len ((zs.take len).map Int.toNat) := by
  refine ⟨by simp; omega, by unfold maxLen at hm; omega, fun h0 => ?_⟩
  obtain ⟨b, off, rfl, hc⟩ := ints_at hcell (by omega)
  have hb : b < W.heap.size := Keep.lt (p := ⟨b, off + 0, none⟩) (by rw [hc 0 (by omega)]; rfl)
  refine ⟨b, off, rfl, hb, fun i hi => ?_⟩
  rw [hc i (by omega)]
  have hi2 : i < zs.length := by omega
  have e1 : zs.getD i 0 = zs[i] := by rw [List.getD_eq_getElem?_getD, List.getElem?_eq_getElem hi2]; rfl
  have e2 : ((zs.take len).map Int.toNat).getD i 0 = (zs[i]).toNat := by
    rw [List.getD_eq_getElem?_getD, List.getElem?_map, List.getElem?_take_of_lt hi, List.getElem?_eq_getElem hi2]; rfl
  rw [e1, e2, Int.toNat_of_nonneg (hnn _ (List.getElem_mem hi2))]
theorem ints_none {k : IntKind} {W : World} {a : Option Addr} : Ints k W a 0 [] := ⟨rfl, by omega, fun h => absurd h (by omega)⟩
section
variable {H : Type} {enc : TypeId × Value → H} {P : Program} {W : World} {base : Nat} {v : Value} {d : DataW H} {p : List MemPlace}
theorem view_ints {t e : TypeId} {k : IntKind} (ht : P.underlying t = some (.slice e)) (he : P.underlying e = some (.int k)) (hc : P.cellsOf e = 1) (hk : ∀ n, (Lit.int k n).wf = true → 0 ≤ n)
    (u : Value.okWide P W .any base t v) (h : DataW.Trod enc P W 0 (fun _ => true) true t v d p) :
    ∃ (a : Option Addr) (n c : Nat) (zs : List Nat), v = .slice a n c ∧ Ints k W a n zs ∧ ∀ z ∈ zs, (Lit.int k z).wf = true := by
  obtain ⟨a, len, cap, rfl⟩ := okWide_slice ht u
  obtain ⟨fuel, hf⟩ := h
  rcases open_ints ht he hc hf with ⟨hcs, _⟩ | ⟨x, l, c, zs, hcs, _, hl, hm, hz, _, hcell, hwz⟩
  · simp [Value.cells] at hcs
    obtain ⟨rfl, rfl, rfl⟩ := hcs
    exact ⟨_, _, _, [], rfl, ints_none, by simp⟩
  · simp [Value.cells] at hcs
    obtain ⟨rfl, rfl, rfl⟩ := hcs
    refine ⟨_, _, _, _, rfl, ints_some hl hm (by simpa using hz) hcell (fun n hn => hk n (hwz n hn)), fun z hz' => ?_⟩
    obtain ⟨n, hn, rfl⟩ := List.mem_map.1 hz'
    have hn' := List.mem_of_mem_take hn
    rw [Int.toNat_of_nonneg (hk n (hwz n hn'))]
    exact hwz n hn'
theorem u8_nn (n : Int) (h : (Lit.int .u8 n).wf = true) : 0 ≤ n ∧ n ≤ 255 := by
  simp [Lit.wf, IntKind.min, IntKind.max, IntKind.signed, IntKind.bits] at h
  omega
theorem u16_nn (n : Int) (h : (Lit.int .u16 n).wf = true) : 0 ≤ n ∧ n ≤ 65535 := by
  simp [Lit.wf, IntKind.min, IntKind.max, IntKind.signed, IntKind.bits] at h
  omega
theorem u64_nn (n : Int) (h : (Lit.int .u64 n).wf = true) : 0 ≤ n ∧ n ≤ 18446744073709551615 := by
  simp [Lit.wf, IntKind.min, IntKind.max, IntKind.signed, IntKind.bits] at h
  omega
theorem view_u64 {t : TypeId} (ht : P.underlying t = some (.int .u64)) (u : Value.okWide P W .any base t v) (h : DataW.Trod enc P W 0 (fun _ => true) true t v d p) :
    ∃ f : Nat, v = .int .u64 f ∧ f < 18446744073709551616 := by
  obtain ⟨n, rfl, _, _, wn⟩ := open_int ht u h
  have h1 := u64_nn n wn
  exact ⟨n.toNat, by rw [Int.toNat_of_nonneg h1.1], by omega⟩
end
end Go.Proofs.Ytdnihlfnglkjiaa
