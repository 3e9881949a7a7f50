/- A region that leaves its order open, of which two operations may come up: the plan parts. -/
import Derived.Test.YtlhcehealjdbdaaDoorReg
namespace Go.Proofs.YtlhcehealjdbdaaDoor
open Go.RowKit
set_option linter.unusedSimpArgs false
set_option linter.unusedVariables false

section
variable {P : Program} {Q : Exit → Act → World → Prop} {md : Region.Mode} {S : World → Prop}
/-- A plan that parts where two operations may come up. -/
inductive PT where
  | lin (l : List (Nat × Bool))
  | fork (pre : List Nat) (i j : Nat) (t u : PT)
def PT.size : PT → Nat
  | .lin l => l.length
  | .fork pre _ _ t _ => pre.length + (t.size + 1)
def listAll : List Nat → Array Bool → Array Bool
  | [], m => m
  | i :: l, m => listAll l (m.setIfInBounds i true)
def preOK (md : Region.Mode) (ops : Array Oper) : List Nat → Array Bool → Bool
  | [], _ => true
  | i :: l, m => Region.free md ops m i && (Region.ready md ops m).contains i && preOK md ops l (m.setIfInBounds i true)
def forkOK (md : Region.Mode) (ops : Array Oper) : PT → Array Bool → Bool
  | .lin l, m => planOK md ops [] l m && l.all fun x => decide (x.1 < ops.size)
  | .fork pre i j t u, m => preOK md ops pre m && ((pre.map fun x => (x, true)).all fun x => decide (x.1 < ops.size)) && (Region.ready md ops (listAll pre m) == [i, j]) && forkOK md ops t ((listAll pre m).setIfInBounds i true) && forkOK md ops u ((listAll pre m).setIfInBounds j true) && (t.size == u.size)
def effBit (P : Program) (Q : Exit → Act → World → Prop) (x : Bit) (a : Act) (w : World) (K : Act → World → Prop) : Prop := okTo a.tmps x.gd = true ∧ x.oper.wp P a w K Q
def wpPT (P : Program) (Q : Exit → Act → World → Prop) (S : World → Prop) (l : List Oper) : PT → Act → World → Prop
  | .lin pl, a, w => wpBits P Q S (bits_ l [] pl) a w
  | .fork pre i j t u, a, w => ∀ Q' : Exit → Act → World → Prop, (∀ a w, effBit P Q (bitOf l [] i false l[i]?) a w (fun a' w' => S w' ∧ wpPT P Q S l t a' w') → effBit P Q (bitOf l [] j false l[j]?) a w (fun a' w' => S w' ∧ wpPT P Q S l u a' w') → Q' .normal a w) → wpBits P Q' S (bits_ l [] (pre.map fun x => (x, true))) a w
theorem pre_any {ops : Array Oper} {n : Nat} {Q' : Exit → Act → World → Prop} (hs : Region.noSelect ops = true) (hQ : ∀ c a d v w, Q (.panic c) (Act.put a d v) w → Q (.panic c) a w) :
    ∀ (pre : List Nat) (m : Array Bool) (a : Act) (w : World), Shut md ops m → preOK md ops pre m = true → S w → wpPlan P ops Q' S [] (pre.map fun x => (x, true)) a w →
      (∀ a' w', Q' .normal a' w' → S w' → Shut md ops (listAll pre m) → anyT P md ops Q S [] n (listAll pre m) a' w') → anyT P md ops Q S [] (pre.length + n) m a w := by
  intro pre
  induction pre with
  | nil =>
    intro m a w hc _ hS h k
    rw [List.length_nil, Nat.zero_add]
    exact k a w h hS hc
  | cons i r ih =>
    intro m a w hc hok hS h k
    obtain ⟨o, v, ho, hy, hr⟩ := h
    simp only [preOK, Bool.and_eq_true] at hok
    obtain ⟨⟨h1, h2⟩, h3⟩ := hok
    rw [List.length_cons, Nat.add_right_comm]
    exact anyT_first ho hs rfl (fun c a w => hQ c a o.dst v w) (r.length + n) m a w hc (Region.free_spec ho h1) (by simpa using h2) hy hS (ih _ _ w (hc.set (by simpa using h2)) h3 hS hr k)
theorem eff_op {l : List Oper} {i : Nat} {a : Act} {w : World} {K : Act → World → Prop} (hi : i < l.length) (h : effBit P Q (bitOf l [] i false l[i]?) a w K) : wpOp P l.toArray Q i K a w := by
  obtain ⟨o, ho⟩ : ∃ o, l[i]? = some o := ⟨l[i]'hi, List.getElem?_eq_getElem hi⟩
  have ho' : l.toArray[i]? = some o := by rw [List.getElem?_toArray]; exact ho
  have hg := wanted_okTo l [] i false o a.tmps
  rw [ho] at h
  obtain ⟨h1, h2⟩ := h
  simp only [wpOp, ho']
  rw [if_pos (hg.trans h1)]
  exact .inl (wp_strip l [] i false o h2)
theorem any_of_PT {l : List Oper} (hs : Region.noSelect l.toArray = true) (hQ : ∀ c a d v w, Q (.panic c) (Act.put a d v) w → Q (.panic c) a w) :
    ∀ (pt : PT) (m : Array Bool) (a : Act) (w : World), Shut md l.toArray m → forkOK md l.toArray pt m = true → S w → wpPT P Q S l pt a w → anyT P md l.toArray Q S [] pt.size m a w := by
  intro pt
  induction pt with
  | lin pl =>
    intro m a w hc hok hS h
    simp only [forkOK, Bool.and_eq_true] at hok
    exact anyT_of_plan hs hQ pl m a w hc hok.1 (.inl hS) (plan_of_bits pl a w (by simpa using hok.2) h)
  | fork pre i j t u iht ihu =>
    intro m a w hc hok hS h
    simp only [forkOK, Bool.and_eq_true, beq_iff_eq] at hok
    obtain ⟨⟨⟨⟨⟨h1, h2⟩, h3⟩, h4⟩, h5⟩, h6⟩ := hok
    have hp := plan_of_bits _ a w (by simpa using h2) (h (fun _ a w => effBit P Q (bitOf l [] i false l[i]?) a w (fun a' w' => S w' ∧ wpPT P Q S l t a' w') ∧ effBit P Q (bitOf l [] j false l[j]?) a w (fun a' w' => S w' ∧ wpPT P Q S l u a' w')) (fun _ _ k1 k2 => ⟨k1, k2⟩))
    refine pre_any hs hQ pre m a w hc h1 hS hp fun a' w' k hS' hc' => ?_
    have hlt : ∀ x, x ∈ Region.ready md l.toArray (listAll pre m) → x < l.length := fun x hx => by
      obtain ⟨_, o, ho, _⟩ := mem_ready.1 hx
      rw [List.getElem?_toArray] at ho
      exact (List.getElem?_eq_some_iff.1 ho).1
    refine ⟨fun h0 => (by rw [h3] at h0; cases h0), fun x hx => ?_⟩
    have hx1 := hlt x hx
    have hx2 := hx
    rw [h3] at hx2
    simp only [List.mem_cons, List.not_mem_nil, or_false] at hx2
    rcases hx2 with rfl | rfl
    · refine wpOp_mono (fun a2 w2 q => ⟨fun _ => q.1, iht _ a2 w2 (hc'.set hx) h4 q.1 q.2⟩) (eff_op hx1 k.1)
    · refine wpOp_mono (fun a2 w2 q => ⟨fun _ => q.1, ?_⟩) (eff_op hx1 k.2)
      rw [h6]
      exact ihu _ a2 w2 (hc'.set hx) h5 q.1 q.2
theorem wp_region_fork {id : Nat} {l : List Oper} {a : Act} {w : World} (pt : PT) (hm : P.follows .mixedOrders = true)
    (hok : (forkOK .any l.toArray pt (Array.replicate l.toArray.size false) && pt.size == l.toArray.size && Region.noSelect l.toArray) = true)
    (hQ : ∀ c a d v w, Q (.panic c) (Act.put a d v) w → Q (.panic c) a w) (hS : S w.drew) (h : wpPT P Q S l pt a w.drew) : (Code.region id l.toArray true).wp P Q a w := by
  simp only [Bool.and_eq_true, beq_iff_eq] at hok
  refine wp_region_any hm (any_of_T (S := S) (T := []) _ _ _ _ ?_)
  rw [← hok.1.2]
  have h1 := hok.1.1
  rw [← hok.1.2] at h1
  exact any_of_PT hok.2 hQ pt _ a w.drew (Shut.none _ _ _) h1 hS h
variable {a : Act} {w : World} {l : List Oper} {g : Option (Option Tmp × Bool)} {d : Option Tmp} {op : Op} {ty : TypeId} {b t : Bool} {R : Act → World → Prop}
theorem lin_in {pl : List (Nat × Bool)} (h : wpBits P Q S (bits_ l [] pl) a w) : wpPT P Q S l (.lin pl) a w := h
theorem fork_in {pre : List Nat} {i j : Nat} {p q : PT} (h : ∀ Q' : Exit → Act → World → Prop, (∀ a w, effBit P Q (bitOf l [] i false l[i]?) a w (fun a' w' => S w' ∧ wpPT P Q S l p a' w') → effBit P Q (bitOf l [] j false l[j]?) a w (fun a' w' => S w' ∧ wpPT P Q S l q a' w') → Q' .normal a w) → wpBits P Q' S (bits_ l [] (pre.map fun x => (x, true))) a w) : wpPT P Q S l (.fork pre i j p q) a w := h
theorem eff_in (hg : okTo a.tmps g = true) (h : ∀ K : Act → World → Prop, (∀ a' w', S w' → R a' w' → K a' w') → Oper.wp P ⟨d, op, ty, "", #[], none⟩ a w K Q) :
    effBit P Q ⟨b, t, g, d, op, ty⟩ a w (fun a' w' => S w' ∧ R a' w') := ⟨hg, h _ fun _ _ hS hl => ⟨hS, hl⟩⟩
end
end Go.Proofs.YtlhcehealjdbdaaDoor
