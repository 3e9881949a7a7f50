/- A region that leaves its order open, walked by a plan: first whatever only computes or reads cells that no one in the region turns, then the one operation that may come up. -/
import Derived.OrdersHeld
import Derived.WalkKit
import Derived.Deep.Draws
namespace Go.Proofs.YtlhcehealjdbdaaDoor
open Go.RowKit

section
variable {P : Program} {ops : Array Oper} {Q : Exit → Act → World → Prop} {md : Region.Mode} {S : World → Prop} {T : List Nat}

/-- What was there reads as it did. -/
def Keep (w0 w : World) : Prop := ∀ p, (w0.cell? p).isSome = true → w.cell? p = w0.cell? p
theorem Keep.at_ {w0 w : World} (h : Keep w0 w) {p : Addr} (hp : (w0.cell? p).isSome = true) : w.cell? p = w0.cell? p := h p hp
theorem Keep.refl (w : World) : Keep w w := fun _ _ => rfl
theorem Keep.trans {a b c : World} (h : Keep a b) (k : Keep b c) : Keep a c := fun p hp => (k p (by rw [h p hp]; exact hp)).trans (h p hp)
theorem Keep.drew {a b : World} (h : Keep a b) : Keep a b.drew := h
theorem Keep.drewN {a b : World} (h : Keep a b) (n : Nat) : Keep a (b.drewN n) := h
theorem Keep.left {a b : World} (n : Nat) (h : Keep a b) : Keep (a.drewN n) b := h
theorem Keep.lt {w : World} {p : Addr} (h : (w.cell? p).isSome = true) : p.block < w.heap.size := by
  rcases Nat.lt_or_ge p.block w.heap.size with h' | h'
  · exact h'
  · simp [World.cell?, Array.getElem?_eq_none h'] at h
theorem Keep.of_below {a b : World} (h : Below a.heap.size a b) : Keep a b := fun _ hp => h.cell (Keep.lt hp)
theorem Keep.below {a b c : World} (h : Keep a b) (k : Below b.heap.size b c) : Keep a c := h.trans (Keep.of_below k)
theorem Keep.alloc {a b : World} (h : Keep a b) (o : Obj) : Keep a (b.alloc o) := h.trans fun p hp => World.cell?_alloc_lt b o p (Keep.lt hp)

/-- Whatever order is picked from here on; S holds behind every operation that is none of the tail's. -/
def anyT (P : Program) (md : Region.Mode) (ops : Array Oper) (Q : Exit → Act → World → Prop) (S : World → Prop) (T : List Nat) : Nat → Array Bool → Act → World → Prop
  | 0, listed, a, w => Region.ready md ops listed = [] ∧ Q .normal a w
  | n + 1, listed, a, w => (Region.ready md ops listed = [] → Q .normal a w) ∧
      ∀ i ∈ Region.ready md ops listed, wpOp P ops Q i (fun a' w' => (i ∉ T → S w') ∧ anyT P md ops Q S T n (listed.setIfInBounds i true) a' w') a w

theorem any_of_T : ∀ (n : Nat) (listed : Array Bool) (a : Act) (w : World), anyT P md ops Q S T n listed a w → wpAny P md ops Q n listed a w
  | 0, _, _, _, h => h
  | n + 1, _, _, _, h => ⟨h.1, fun i hi => wpOp_mono (fun a' w' k => any_of_T n _ a' w' k.2) (h.2 i hi)⟩

/-- The numbers that those of S wait for, on and on, are taken in: 'order' from the last to the first. -/
def mark (md : Region.Mode) (ops : Array Oper) : List Nat → List Nat → List Nat
  | [], L => L
  | k :: ks, L => mark md ops ks (if L.contains k then (match ops[k]? with
      | some o => (o.after.toList.filter (Region.binds md)).map (·.on) ++ L
      | none => L) else L)
/-- The tail's operations wait for number i. -/
def tailWaits (md : Region.Mode) (ops : Array Oper) (T : List Nat) (i : Nat) : Bool :=
  T.all fun j => (mark md ops (List.range ops.size).reverse [j]).contains i && j != i

/-- What is listed has all listed that it waits for. -/
def Shut (md : Region.Mode) (ops : Array Oper) (listed : Array Bool) : Prop :=
  ∀ k o, ops[k]? = some o → listed.getD k false = true → ∀ e ∈ o.after, Region.binds md e = true → listed.getD e.on false = true
theorem Shut.none (md : Region.Mode) (ops : Array Oper) (n : Nat) : Shut md ops (Array.replicate n false) := fun k o _ h => by
  simp only [Array.getD_eq_getD_getElem?, Array.getElem?_replicate] at h
  split at h <;> simp at h
theorem Shut.set {listed : Array Bool} (h : Shut md ops listed) {i : Nat} (hi : i ∈ Region.ready md ops listed) : Shut md ops (listed.setIfInBounds i true) := fun k o ho hk e he hb => by
  by_cases hki : k = i
  · subst hki
    obtain ⟨_, o', ho', hall⟩ := mem_ready.1 hi
    rw [ho] at ho'
    cases ho'
    exact getD_set_true (hall e he hb)
  · rw [getD_set_ne false (Ne.symm hki)] at hk
    exact getD_set_true (h k o ho hk e he hb)
theorem mark_listed {listed : Array Bool} (hc : Shut md ops listed) {j : Nat} (hj : j ∈ Region.ready md ops listed) :
    ∀ (ks L : List Nat), (∀ x ∈ L, x = j ∨ listed.getD x false = true) → ∀ x ∈ mark md ops ks L, x = j ∨ listed.getD x false = true := by
  intro ks
  induction ks with
  | nil => exact fun L h => h
  | cons k ks ih =>
    intro L h
    refine ih _ ?_
    split
    · rename_i hk
      split
      · rename_i o ho
        intro x hx
        rcases List.mem_append.1 hx with hx | hx
        · obtain ⟨e, he, rfl⟩ := List.mem_map.1 hx
          obtain ⟨he1, he2⟩ := List.mem_filter.1 he
          have he1' : e ∈ o.after := by simpa using he1
          rcases h k (by simpa using hk) with rfl | hl
          · obtain ⟨_, o', ho', hall⟩ := mem_ready.1 hj
            rw [ho] at ho'
            cases ho'
            exact .inr (hall e he1' he2)
          · exact .inr (hc k o ho hl e he1' he2)
        · exact h x hx
      · exact h
    · exact h

theorem not_tail {i j : Nat} {listed : Array Bool} (hc : Shut md ops listed) (ht : tailWaits md ops T i = true) (hi : i ∈ Region.ready md ops listed) (hj : j ∈ Region.ready md ops listed) : j ∉ T := by
  intro hm
  have h1 := List.all_eq_true.1 ht j hm
  simp only [Bool.and_eq_true, bne_iff_ne, ne_eq] at h1
  have h2 := (mark_listed hc hj _ [j] (fun x hx => .inl (by simpa using hx)) i (by simpa using h1.1)).resolve_left (fun e => h1.2 e.symm)
  have h0 := (mem_ready.1 hi).1
  rcases Nat.lt_or_ge i listed.size with h' | h'
  · simp [h'] at h0 h2
    rw [h0] at h2
    cases h2
  · simp [Array.getElem?_eq_none h'] at h2

theorem anyT_first {i : Nat} {oi : Oper} {v : Value} (hi : ops[i]? = some oi) (hs : Region.noSelect ops = true) (ht : tailWaits md ops T i = true)
    (hQ : ∀ c a w, Q (.panic c) (a.put oi.dst v) w → Q (.panic c) a w) :
    ∀ (n : Nat) (listed : Array Bool) (a : Act) (w : World),
      Shut md ops listed → (∀ j oj, ops[j]? = some oj → j ≠ i → listed.getD j true = false → (∀ e ∈ oj.after, Region.binds md e = true → e.on ≠ i) → oi.apart ops oj = true) →
      i ∈ Region.ready md ops listed → YieldsIf P ops S oi v a → S w → anyT P md ops Q S T n (listed.setIfInBounds i true) (a.put oi.dst v) w → anyT P md ops Q S T (n + 1) listed a w := by
  intro n
  induction n with
  | zero =>
    intro listed a w _ _ hr hy hS H
    refine ⟨fun h => (by rw [h] at hr; cases hr), fun j hj => ?_⟩
    by_cases e : j = i
    · subst e
      exact hy.wpOp hi hS ⟨fun _ => hS, H⟩
    · have h := ready_mono hj e
      rw [H.1] at h
      cases h
  | succ n ih =>
    intro listed a w hc hf hr hy hS H
    refine ⟨fun h => (by rw [h] at hr; cases hr), fun j hj => ?_⟩
    by_cases e : j = i
    · subst e
      exact hy.wpOp hi hS ⟨fun _ => hS, H⟩
    · obtain ⟨hju, oj, hoj, hall⟩ := mem_ready.1 hj
      have hno : ∀ e ∈ oj.after, Region.binds md e = true → e.on ≠ i := fun e he hb heq => by
        have h1 := hall e he hb
        have h0 := (mem_ready.1 hr).1
        rw [heq] at h1
        rcases Nat.lt_or_ge i listed.size with h' | h'
        · simp [h'] at h0 h1
          rw [h0] at h1
          cases h1
        · simp [Array.getElem?_eq_none h'] at h1
      have hnt : j ∉ T := not_tail hc ht hr hj
      have h2 := wpOp_putIf hoj (hf j oj hoj e hju hno) (fun cs b => Region.noSelect_spec hs i oi cs b hi) (fun cs b => Region.noSelect_spec hs j oj cs b hoj) hQ hy (H.2 j (ready_mono hj e))
      have hf' : ∀ k ok, ops[k]? = some ok → k ≠ i → (listed.setIfInBounds j true).getD k true = false → (∀ e ∈ ok.after, Region.binds md e = true → e.on ≠ i) → oi.apart ops ok = true := fun k ok hk hki hun hno => by
        refine hf k ok hk hki ?_ hno
        by_cases hjk : j = k
        · subst hjk
          exact hju
        · rw [getD_set_ne true hjk] at hun
          exact hun
      refine wpOp_mono (fun a' w' h3 => ⟨h3.2.1, ih (listed.setIfInBounds j true) a' w' (hc.set hj) hf' (ready_mono hr (Ne.symm e)) h3.1 (h3.2.1 hnt) ?_⟩) h2
      rw [Array.setIfInBounds_comm _ _ e]
      exact h3.2.2

/-- The walk by a plan: (i, true): number i only computes, or reads what stays; (i, false): number i is the only one that may come up. -/
def wpPlan (P : Program) (ops : Array Oper) (Q : Exit → Act → World → Prop) (S : World → Prop) (T : List Nat) : List (Nat × Bool) → Act → World → Prop
  | [], a, w => Q .normal a w
  | (i, true) :: l, a, w => ∃ o v, ops[i]? = some o ∧ YieldsIf P ops S o v a ∧ wpPlan P ops Q S T l (a.put o.dst v) w
  | (i, false) :: l, a, w => wpOp P ops Q i (fun a' w' => (i ∉ T → S w') ∧ wpPlan P ops Q S T l a' w') a w

def planOK (md : Region.Mode) (ops : Array Oper) (T : List Nat) : List (Nat × Bool) → Array Bool → Bool
  | [], listed => (Region.ready md ops listed).isEmpty
  | (i, true) :: l, listed => Region.free md ops listed i && (Region.ready md ops listed).contains i && tailWaits md ops T i && planOK md ops T l (listed.setIfInBounds i true)
  | (i, false) :: l, listed => (Region.ready md ops listed == [i]) && (!T.contains i || l.all fun x => !x.2) && planOK md ops T l (listed.setIfInBounds i true)

theorem anyT_of_plan (hs : Region.noSelect ops = true) (hQ : ∀ c a d v w, Q (.panic c) (Act.put a d v) w → Q (.panic c) a w) :
    ∀ (plan : List (Nat × Bool)) (listed : Array Bool) (a : Act) (w : World), Shut md ops listed → planOK md ops T plan listed = true → (S w ∨ plan.all (fun x => !x.2) = true) →
      wpPlan P ops Q S T plan a w → anyT P md ops Q S T plan.length listed a w := by
  intro plan
  induction plan with
  | nil =>
    intro listed a w _ hok _ h
    exact ⟨List.isEmpty_iff.1 hok, h⟩
  | cons x l ih =>
    obtain ⟨i, b⟩ := x
    intro listed a w hc hok hS h
    cases b with
    | true =>
      simp only [planOK, Bool.and_eq_true] at hok
      obtain ⟨⟨⟨h1, h2⟩, h3⟩, h4⟩ := hok
      have hS' : S w := hS.resolve_right (by simp)
      obtain ⟨o, v, ho, hy, hr⟩ := h
      exact anyT_first ho hs h3 (fun c a w => hQ c a o.dst v w) l.length listed a w hc (Region.free_spec ho h1) (by simpa using h2) hy hS' (ih _ _ _ (hc.set (by simpa using h2)) h4 (.inl hS') hr)
    | false =>
      simp only [planOK, Bool.and_eq_true, beq_iff_eq, Bool.or_eq_true, Bool.not_eq_true'] at hok
      obtain ⟨⟨h1, h2⟩, h3⟩ := hok
      refine ⟨fun h0 => by rw [h1] at h0; simp at h0, fun j hj => ?_⟩
      rw [h1] at hj
      obtain rfl : j = i := by simpa using hj
      refine wpOp_mono (fun a' w' k => ⟨k.1, ih _ _ _ (hc.set (by rw [h1]; simp)) h3 ?_ k.2⟩) h
      rcases h2 with h2 | h2
      · exact .inl (k.1 (by simpa using h2))
      · exact .inr (by simpa using h2)

theorem wp_region_plan {id : Nat} {a : Act} {w : World} (plan : List (Nat × Bool)) (T : List Nat) (hm : P.follows .mixedOrders = true)
    (hok : (planOK .any ops T plan (Array.replicate ops.size false) && plan.length == ops.size && Region.noSelect ops) = true)
    (hQ : ∀ c a d v w, Q (.panic c) (Act.put a d v) w → Q (.panic c) a w) (hS : S w.drew) (h : wpPlan P ops Q S T plan a w.drew) : (Code.region id ops true).wp P Q a w := by
  simp only [Bool.and_eq_true, beq_iff_eq] at hok
  refine wp_region_any hm (any_of_T (S := S) (T := T) _ _ _ _ ?_)
  rw [← hok.1.2]
  have h1 := hok.1.1
  rw [← hok.1.2] at h1
  exact anyT_of_plan hok.2 hQ plan _ a w.drew (Shut.none _ _ _) h1 (.inl hS) h

/-! ### The plan's operations written out, without their edges -/

structure Bit where
  pure : Bool
  tail : Bool
  gd : Option (Option Tmp × Bool)
  dst : Option Tmp
  op : Op
  ty : TypeId

def Bit.oper (x : Bit) : Oper := ⟨x.dst, x.op, x.ty, "", #[], none⟩

def okTo (tmps : Array Value) : Option (Option Tmp × Bool) → Bool
  | none => true
  | some (d, want) => (match d.bind (tmps[·]?) with
    | some (.bool b) => some b
    | _ => none) == some want

def bitOf (l : List Oper) (T : List Nat) (i : Nat) (b : Bool) : Option Oper → Bit
  | some o => ⟨b, T.contains i, match o.guard with
      | none => none
      | some (j, t) => some (match l[j]? with
        | some x => x.dst
        | none => none, t), o.dst, o.op, o.type⟩
  | none => ⟨b, true, none, none, .move (.tmp 0), 0⟩

def bits_ (l : List Oper) (T : List Nat) : List (Nat × Bool) → List Bit
  | [] => []
  | (i, b) :: r => bitOf l T i b l[i]? :: bits_ l T r

def wpBits (P : Program) (Q : Exit → Act → World → Prop) (S : World → Prop) : List Bit → Act → World → Prop
  | [], a, w => Q .normal a w
  | x :: l, a, w => match x.pure with
    | true => (okTo a.tmps x.gd = true ∧ ∃ v, (∀ w', S w' → (execOp a.eval x.oper).run P w' = .ok (.value v) w') ∧ wpBits P Q S l (a.put x.dst v) w) ∨ (okTo a.tmps x.gd = false ∧ wpBits P Q S l (a.put x.dst undef) w)
    | false => (okTo a.tmps x.gd = true ∧ x.oper.wp P a w (fun a' w' => (x.tail = true ∨ S w') ∧ wpBits P Q S l a' w') Q) ∨ (okTo a.tmps x.gd = false ∧ (x.tail = true ∨ S w) ∧ wpBits P Q S l (a.put x.dst undef) w)

theorem wanted_okTo (l : List Oper) (T : List Nat) (i : Nat) (b : Bool) (o : Oper) (tmps : Array Value) : Region.wanted o (yielded l.toArray tmps) = okTo tmps (bitOf l T i b (some o)).gd := by
  obtain ⟨d, op, ty, pos, af, g⟩ := o
  rcases g with _ | ⟨j, t⟩
  · rfl
  · simp only [Region.wanted, bitOf, okTo, yielded, List.getElem?_toArray]
    rcases l[j]? with _ | x <;> rfl

theorem wp_strip {K : Act → World → Prop} {a : Act} {w : World} (l : List Oper) (T : List Nat) (i : Nat) (b : Bool) (o : Oper) (h : (bitOf l T i b (some o)).oper.wp P a w K Q) : o.wp P a w K Q := by
  obtain ⟨d, op, ty, pos, af, g⟩ := o
  unfold Oper.wp at *
  exact h

theorem plan_of_bits {l : List Oper} : ∀ (plan : List (Nat × Bool)) (a : Act) (w : World), (plan.all fun x => decide (x.1 < l.length)) = true →
    wpBits P Q S (bits_ l T plan) a w → wpPlan P l.toArray Q S T plan a w := by
  intro plan
  induction plan with
  | nil => exact fun _ _ _ h => h
  | cons x r ih =>
    obtain ⟨i, b⟩ := x
    intro a w hl h
    simp only [List.all_cons, Bool.and_eq_true, decide_eq_true_eq] at hl
    obtain ⟨o, ho⟩ : ∃ o, l[i]? = some o := ⟨l[i]'hl.1, List.getElem?_eq_getElem hl.1⟩
    have ho' : l.toArray[i]? = some o := by rw [List.getElem?_toArray]; exact ho
    have hg := wanted_okTo l T i b o a.tmps
    have ht : ∀ {p : Prop}, ((bitOf l T i b (some o)).tail = true ∨ p) → i ∉ T → p := fun h hn => h.resolve_left (by simpa [bitOf] using hn)
    simp only [bits_, ho] at h
    cases b with
    | true =>
      rcases h with ⟨h1, v, hv, h2⟩ | ⟨h1, h2⟩
      · exact ⟨o, v, ho', .inl ⟨hg.trans h1, hv⟩, ih _ _ hl.2 h2⟩
      · exact ⟨o, undef, ho', .inr ⟨hg.trans h1, rfl⟩, ih _ _ hl.2 h2⟩
    | false =>
      simp only [wpPlan, wpOp, ho']
      rcases h with ⟨h1, h2⟩ | ⟨h1, h2, h3⟩
      · rw [if_pos (hg.trans h1)]
        exact .inl (Oper.wp_mono (fun a' w' k => ⟨ht k.1, ih _ _ hl.2 k.2⟩) (wp_strip l T i false o h2))
      · rw [if_neg (by rw [hg, h1]; simp)]
        exact ⟨ht h2, ih _ _ hl.2 h3⟩

theorem wp_region_bits_at {id : Nat} {l : List Oper} {a : Act} {w : World} (plan : List (Nat × Bool)) (T : List Nat) (hm : P.follows .mixedOrders = true)
    (hok : (planOK .any l.toArray T plan (Array.replicate l.toArray.size false) && plan.length == l.toArray.size && Region.noSelect l.toArray && plan.all fun x => decide (x.1 < l.length)) = true)
    (hQ : ∀ c a d v w, Q (.panic c) (Act.put a d v) w → Q (.panic c) a w) (hS : S w.drew) (h : wpBits P Q S (bits_ l T plan) a w.drew) : (Code.region id l.toArray true).wp P Q a w := by
  rw [Bool.and_eq_true] at hok
  exact wp_region_plan plan T hm hok.1 hQ hS (plan_of_bits plan a w.drew hok.2 h)
/-- What was there stays, behind every operation but the tail's. -/
theorem wp_region_bits {id : Nat} {l : List Oper} {a : Act} {w : World} (plan : List (Nat × Bool)) (T : List Nat) (hm : P.follows .mixedOrders = true)
    (hok : (planOK .any l.toArray T plan (Array.replicate l.toArray.size false) && plan.length == l.toArray.size && Region.noSelect l.toArray && plan.all fun x => decide (x.1 < l.length)) = true)
    (hQ : ∀ c a d v w, Q (.panic c) (Act.put a d v) w → Q (.panic c) a w) (h : wpBits P Q (Keep w) (bits_ l T plan) a w.drew) : (Code.region id l.toArray true).wp P Q a w :=
  wp_region_bits_at plan T hm hok hQ (Keep.refl w) h
/-- Nothing is asked of the world: no operation but the effects reads it. -/
def Free (_ : World) : Prop := True
theorem Free.yes (w : World) : Free w := trivial
theorem wp_region_free {id : Nat} {l : List Oper} {a : Act} {w : World} (plan : List (Nat × Bool)) (T : List Nat) (hm : P.follows .mixedOrders = true)
    (hok : (planOK .any l.toArray T plan (Array.replicate l.toArray.size false) && plan.length == l.toArray.size && Region.noSelect l.toArray && plan.all fun x => decide (x.1 < l.length)) = true)
    (hQ : ∀ c a d v w, Q (.panic c) (Act.put a d v) w → Q (.panic c) a w) (h : wpBits P Q Free (bits_ l T plan) a w.drew) : (Code.region id l.toArray true).wp P Q a w :=
  wp_region_bits_at plan T hm hok hQ trivial h

variable {a : Act} {w : World} {l : List Bit} {g : Option (Option Tmp × Bool)} {d : Option Tmp} {op : Op} {ty : TypeId} {t : Bool}
theorem bits_nil (h : Q .normal a w) : wpBits P Q S [] a w := h
theorem bits_take {v : Value} (hg : okTo a.tmps g = true) (hy : ∀ w', S w' → (execOp a.eval ⟨d, op, ty, "", #[], none⟩).run P w' = .ok (.value v) w')
    (h : wpBits P Q S l (a.put d v) w) : wpBits P Q S (⟨true, t, g, d, op, ty⟩ :: l) a w := .inl ⟨hg, v, hy, h⟩
theorem bits_skip (hg : okTo a.tmps g = false) (h : wpBits P Q S l (a.put d undef) w) : wpBits P Q S (⟨true, t, g, d, op, ty⟩ :: l) a w := .inr ⟨hg, h⟩
theorem bits_pass (hg : okTo a.tmps g = false) (hS : S w) (h : wpBits P Q S l (a.put d undef) w) : wpBits P Q S (⟨false, t, g, d, op, ty⟩ :: l) a w := .inr ⟨hg, .inr hS, h⟩
theorem bits_pass_tail (hg : okTo a.tmps g = false) (h : wpBits P Q S l (a.put d undef) w) : wpBits P Q S (⟨false, true, g, d, op, ty⟩ :: l) a w := .inr ⟨hg, .inl rfl, h⟩
theorem bits_eff (hg : okTo a.tmps g = true) (h : ∀ K : Act → World → Prop, (∀ a' w', S w' → wpBits P Q S l a' w' → K a' w') → Oper.wp P ⟨d, op, ty, "", #[], none⟩ a w K Q) :
    wpBits P Q S (⟨false, t, g, d, op, ty⟩ :: l) a w := .inl ⟨hg, h _ fun _ _ hS hl => ⟨.inr hS, hl⟩⟩
theorem bits_tail (hg : okTo a.tmps g = true) (h : ∀ K : Act → World → Prop, (∀ a' w', wpBits P Q S l a' w' → K a' w') → Oper.wp P ⟨d, op, ty, "", #[], none⟩ a w K Q) :
    wpBits P Q S (⟨false, true, g, d, op, ty⟩ :: l) a w := .inl ⟨hg, h _ fun _ _ hl => ⟨.inl rfl, hl⟩⟩
end
attribute [irreducible] wpBits

theorem alloc_drewN (w : World) (n : Nat) (o : Obj) : (w.drewN n).alloc o = (w.alloc o).drewN n := rfl
theorem setCell_drewN (w : World) (n : Nat) (a : Addr) (v : Value) : (w.drewN n).setCell a v = (w.setCell a v).drewN n := rfl
theorem below_drewN {B : Nat} {a w : World} (h : Below B a w) (n : Nat) : Below B a (w.drewN n) := ⟨h.os, h.tape, h.output, h.size, h.block⟩
end Go.Proofs.YtlhcehealjdbdaaDoor
