/- For any cells and any table LinksCanon returns true: cells whose links are numbered anew are the document's, and what is answered is new memory. Conditions: none. -/
import Derived.Test.YtdnihlfnglkjiaaCanonLaw
import Derived.Test.YtdnihlfnglkjiaaSView
import Derived.Test.YtdnihlfnglkjiaaCView
import Derived.ChangeOld
import Derived.Below
import Derived.SizedLaws
namespace Go.Proofs.Ytdnihlfnglkjiaa.linksCanon
open Go.ChangeShapes Go.WideShapes Go.ChangeAt Go.RowKit

theorem own_ : ownKnob Try.prog.godebug = none := by kernel_rfl
theorem laidOut_ : laidOutB Try.prog = true := by kernel_rfl

set_option maxRecDepth 100000 in
theorem lifted (os : Os) (started : os.Started) (H : Type) (enc : TypeId × Value → H) :
    ReturnsInHanded {} Try.checked os 5 .any (Rows.linksCanonSpec.pre6 enc Try.prog Try.f5 Rows.linksCanonRow.domain false) (Rows.linksCanonSpec.post enc Try.prog Try.f5 false true false false) := by
  refine returnsInHanded_of_change_sized (C := Try.checked) own_ started (by kernel_rfl) Try.func5
    (ChangeSpec.witness6 (enc := enc) (C := Try.checked) false ⟨#[], #[.slice none 0 0, .slice none 0 0], []⟩ 8 (by kernel_rfl) (by kernel_rfl) (by kernel_rfl) (by kernel_rfl)) ?_
  intro W base args ds gs before hval0 hW _ hsz0 _
  have hval : ∀ (j : Nat) t v, Try.f5.params[j]? = some t → args[j]? = some v → Value.okWide Try.prog W .any base t v := hval0
  have hW' := hW
  obtain ⟨p, q, hA0, hV, rfl, hfz, hnd⟩ := hW
  have hA : DataW.TrodAll enc Try.prog W 0 (fun _ => true) true Try.f5.params.toList args.toList ds p := hA0
  rw [Try.params5] at hA hval
  obtain ⟨v0, vs0, d0, ds0, p0, q0, hargs, rfl, rfl, h0, r0⟩ := trodAll_cons hA
  obtain ⟨v1, vs1, d1, ds1, p1, q1, rfl, rfl, rfl, h1, r1⟩ := trodAll_cons r0
  obtain ⟨rfl, rfl, rfl⟩ := trodAll_nil r1
  obtain rfl : args = #[v0, v1] := by cases args; simp_all
  obtain ⟨rfl, rfl⟩ := trodVars_none hV
  have hsz : (DataW.weightsEach Try.prog (Try.f5.params.toList ++ []) ([d0, d1] ++ [])).all (· ≤ reachBytes) = true := hsz0
  rw [Try.params5] at hsz
  have z0 : ∀ n ∈ d0.weights Try.prog 41, n ≤ reachBytes := fun n hn => by simpa using List.all_eq_true.1 hsz n (DataW.weights_mem_each (j := 0) rfl rfl n hn)
  have z1 : ∀ n ∈ d1.weights Try.prog 23, n ≤ reachBytes := fun n hn => by simpa using List.all_eq_true.1 hsz n (DataW.weights_mem_each (j := 1) rfl rfl n hn)
  have k0 := h0
  have lt0 : ∀ x ∈ p0, x.block < W.heap.size := by obtain ⟨m, hm⟩ := k0; exact DataW.trod_lt m _ _ _ hm
  have u0 := hval 0 41 v0 rfl rfl
  have k1 := h1
  have lt1 : ∀ x ∈ p1, x.block < W.heap.size := by obtain ⟨m, hm⟩ := k1; exact DataW.trod_lt m _ _ _ hm
  have u1 := hval 1 23 v1 rfl rfl
  obtain ⟨ag, ng, cg, xg, rfl, lg, eg, sg⟩ := view_cells Try.underlying41 u0 h0
  obtain ⟨aq, nq, cq, xq, rfl, lq, eq, sq⟩ := view_strs Try.underlying23 Try.underlying9 (by kernel_rfl) u1 h1 z1
  clear hA0 hval0 hsz0 hsz
  refine (canon_walk ag aq ng cg nq cq xg xq W lg lq sq (fit_of sg)).mono fun e W' ⟨he, bel⟩ => ?_
  subst he
  exact ⟨_, rfl, _, _, _, [], _, [], hW', trodAll_mk1 (shut_bool Try.underlying4 _), (trodAll_cons_mk (Below.trod laidOut_ (by kernel_rfl) (of_decide_eq_true (by kernel_rfl)) k0 bel lt0) (trodAll_cons_mk (Below.trod laidOut_ (by kernel_rfl) (of_decide_eq_true (by kernel_rfl)) k1 bel lt1) trodAll_mk0)), rfl, bel.frame _, fun h => by cases h⟩

theorem over : Rows.linksCanonRow.holds Try.pinned (OpenSpec.ofChange Rows.linksCanonSpec) :=
  OpenClaim.holds_of_wide 5 Try.f5 rfl rfl rfl rfl rfl rfl rfl ⟨rfl, rfl, rfl, rfl, rfl⟩ rfl rfl rfl rfl rfl (by kernel_rfl) Try.func5 (by kernel_rfl)
    (of_decide_eq_true (by kernel_rfl)) (by unfold Func.isWrapper; first | (rw [if_pos (by decide +kernel)]; kernel_rfl) | (rw [if_neg (by decide +kernel)]; exact ⟨rfl, rfl⟩))
    (fun os started H enc _ => lifted os started H enc)
end Go.Proofs.Ytdnihlfnglkjiaa.linksCanon
namespace Go.Proofs.Ytdnihlfnglkjiaa
/-- The given statement. -/
theorem linksCanon_proved : Rows.LinksCanonSaid := linksCanon.over
#print axioms linksCanon_proved
end Go.Proofs.Ytdnihlfnglkjiaa
