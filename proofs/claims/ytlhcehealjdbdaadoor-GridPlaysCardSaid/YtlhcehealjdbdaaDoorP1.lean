/- Part 1 of the texts that GridPlays stands on, one behind the other. -/
import Derived.Below
import Derived.WalkKit
import Derived.Deep.Draws
import Derived.OrdersHeld
import Derived.Test.YtlhcehealjdbdaaDoorChecked
import Derived.OwnWalk
import Derived.Laws.AppendOwn
import Derived.Laws.AppendOwnNone
import Derived.Laws.CopyOwn
import Derived.Laws.CopyRow
import Derived.Laws.IdiomCopy
import Derived.Lib.BufferMore
import Derived.WalkSpells
import Derived.WalkLawsBesides
import Derived.Lib.Hide
/- Blocks known whole, and what a store or a new block leaves of them. -/
namespace Go.Proofs.YtlhcehealjdbdaaDoor
open Go.RowKit

/-- Block g is just these cells. -/
def Own (w : World) (g : Nat) (t : TypeId) (cs : Array Value) : Prop := w.heap[g]? = some (.cells cs t (0, 0))
section
variable {w w' : World} {g : Nat} {t : TypeId} {cs : Array Value}
theorem Own.lt (h : Own w g t cs) : g < w.heap.size := by
  rcases Nat.lt_or_ge g w.heap.size with k | k
  · exact k
  · unfold Own at h
    rw [Array.getElem?_eq_none k] at h
    cases h
theorem Own.cell (h : Own w g t cs) (i : Nat) : w.cell? ⟨g, i, none⟩ = cs[i]? := by
  unfold Own at h
  simp [World.cell?, h]
theorem Own.frozen (h : Own w g t cs) (i : Nat) : w.frozen? ⟨g, i, none⟩ = false := by
  unfold Own at h
  simp [World.frozen?, h]
theorem Own.new (w : World) (t : TypeId) (cs : Array Value) : Own (w.alloc (.cells cs t)) w.heap.size t cs := heap_alloc_new w _
theorem Own.draws (h : Own w g t cs) (n : Nat) : Own (w.drewN n) g t cs := h
theorem Own.alloc (h : Own w g t cs) (o : Obj) : Own (w.alloc o) g t cs := (Below.heap_alloc w o g h.lt).trans h
theorem Own.store (h : Own w g t cs) (i : Nat) (u : Value) : Own (w.setCell ⟨g, i, none⟩ u) g t (cs.setIfInBounds i u) := by
  unfold Own at *
  simp [World.setCell, Array.getElem?_modify, h]
theorem Own.other (h : Own w g t cs) {p : Addr} (hp : g ≠ p.block) (u : Value) : Own (w.setCell p u) g t cs := (Below.heap_setCell w p u g hp).trans h
theorem Own.below {B : Nat} (h : Own w g t cs) (hb : Below B w w') (hg : g < B) : Own w' g t cs := (hb.block g hg).trans h
theorem Own.grown {row : Option Nat} (h : Own w g t cs) (hb : w.grownBy w' row) (hg : some g ≠ row) : Own w' g t cs := (hb.block g h.lt hg).trans h
end

section
variable {a w : World} {g : Nat}
theorem turn_refl (w : World) (row : Option Nat) : w.grownBy w row := World.grownBy.refl w row
theorem turn_draws {row : Option Nat} (h : a.grownBy w row) (n : Nat) : a.grownBy (w.drewN n) row := ⟨h.os, h.tape, h.output, h.size, h.block⟩
theorem turn_alloc {row : Option Nat} (h : a.grownBy w row) (o : Obj) : a.grownBy (w.alloc o) row :=
  ⟨h.os, h.tape, h.output, Nat.le_trans h.size (by simp), fun i hi hne => (Below.heap_alloc w o i (Nat.lt_of_lt_of_le hi h.size)).trans (h.block i hi hne)⟩
theorem turn_store (h : a.grownBy w (some g)) (i : Nat) (u : Value) : a.grownBy (w.setCell ⟨g, i, none⟩ u) (some g) :=
  ⟨h.os, h.tape, h.output, by simpa [World.setCell] using h.size, fun k hk hne => (Below.heap_setCell w _ u k (by rintro rfl; exact hne rfl)).trans (h.block k hk hne)⟩
theorem turn_left {row : Option Nat} (h : a.grownBy w row) (n : Nat) : (a.drewN n).grownBy w row := ⟨h.os, h.tape, h.output, h.size, h.block⟩
end
end Go.Proofs.YtlhcehealjdbdaaDoor
/- A region that leaves its order open, walked by a plan: first whatever only computes or reads cells that no one in the region turns, then the one operation that may come up. -/
namespace Go.Proofs.YtlhcehealjdbdaaDoor
open Go.RowKit

section
variable {P : Program} {ops : Array Oper} {Q : Exit → Act → World → Prop} {md : Region.Mode} {S : World → Prop} {T : List Nat}

/-- What was there reads as it did. -/
def Keep (w0 w : World) : Prop := ∀ p, (w0.cell? p).isSome = true → w.cell? p = w0.cell? p
theorem Keep.at_ {w0 w : World} (h : Keep w0 w) {p : Addr} (hp : (w0.cell? p).isSome = true) : w.cell? p = w0.cell? p := h p hp
theorem Keep.refl (w : World) : Keep w w := fun _ _ => rfl
theorem Keep.trans {a b c : World} (h : Keep a b) (k : Keep b c) : Keep a c := fun p hp => (k p (by rw [h p hp]; exact hp)).trans (h p hp)
theorem Keep.drew {a b : World} (h : Keep a b) : Keep a b.drew := h
theorem Keep.drewN {a b : World} (h : Keep a b) (n : Nat) : Keep a (b.drewN n) := h
theorem Keep.left {a b : World} (n : Nat) (h : Keep a b) : Keep (a.drewN n) b := h
theorem Keep.lt {w : World} {p : Addr} (h : (w.cell? p).isSome = true) : p.block < w.heap.size := by
  rcases Nat.lt_or_ge p.block w.heap.size with h' | h'
  · exact h'
  · simp [World.cell?, Array.getElem?_eq_none h'] at h
theorem Keep.of_below {a b : World} (h : Below a.heap.size a b) : Keep a b := fun _ hp => h.cell (Keep.lt hp)
theorem Keep.below {a b c : World} (h : Keep a b) (k : Below b.heap.size b c) : Keep a c := h.trans (Keep.of_below k)
theorem Keep.alloc {a b : World} (h : Keep a b) (o : Obj) : Keep a (b.alloc o) := h.trans fun p hp => World.cell?_alloc_lt b o p (Keep.lt hp)

/-- Whatever order is picked from here on; S holds behind every operation that is none of the tail's. -/
def anyT (P : Program) (md : Region.Mode) (ops : Array Oper) (Q : Exit → Act → World → Prop) (S : World → Prop) (T : List Nat) : Nat → Array Bool → Act → World → Prop
  | 0, listed, a, w => Region.ready md ops listed = [] ∧ Q .normal a w
  | n + 1, listed, a, w => (Region.ready md ops listed = [] → Q .normal a w) ∧
      ∀ i ∈ Region.ready md ops listed, wpOp P ops Q i (fun a' w' => (i ∉ T → S w') ∧ anyT P md ops Q S T n (listed.setIfInBounds i true) a' w') a w

theorem any_of_T : ∀ (n : Nat) (listed : Array Bool) (a : Act) (w : World), anyT P md ops Q S T n listed a w → wpAny P md ops Q n listed a w
  | 0, _, _, _, h => h
  | n + 1, _, _, _, h => ⟨h.1, fun i hi => wpOp_mono (fun a' w' k => any_of_T n _ a' w' k.2) (h.2 i hi)⟩

/-- The numbers that those of S wait for, on and on, are taken in: 'order' from the last to the first. -/
def mark (md : Region.Mode) (ops : Array Oper) : List Nat → List Nat → List Nat
  | [], L => L
  | k :: ks, L => mark md ops ks (if L.contains k then (match ops[k]? with
      | some o => (o.after.toList.filter (Region.binds md)).map (·.on) ++ L
      | none => L) else L)
/-- The tail's operations wait for number i. -/
def tailWaits (md : Region.Mode) (ops : Array Oper) (T : List Nat) (i : Nat) : Bool :=
  T.all fun j => (mark md ops (List.range ops.size).reverse [j]).contains i && j != i

/-- What is listed has all listed that it waits for. -/
def Shut (md : Region.Mode) (ops : Array Oper) (listed : Array Bool) : Prop :=
  ∀ k o, ops[k]? = some o → listed.getD k false = true → ∀ e ∈ o.after, Region.binds md e = true → listed.getD e.on false = true
theorem Shut.none (md : Region.Mode) (ops : Array Oper) (n : Nat) : Shut md ops (Array.replicate n false) := fun k o _ h => by
  simp only [Array.getD_eq_getD_getElem?, Array.getElem?_replicate] at h
  split at h <;> simp at h
theorem Shut.set {listed : Array Bool} (h : Shut md ops listed) {i : Nat} (hi : i ∈ Region.ready md ops listed) : Shut md ops (listed.setIfInBounds i true) := fun k o ho hk e he hb => by
  by_cases hki : k = i
  · subst hki
    obtain ⟨_, o', ho', hall⟩ := mem_ready.1 hi
    rw [ho] at ho'
    cases ho'
    exact getD_set_true (hall e he hb)
  · rw [getD_set_ne false (Ne.symm hki)] at hk
    exact getD_set_true (h k o ho hk e he hb)
theorem mark_listed {listed : Array Bool} (hc : Shut md ops listed) {j : Nat} (hj : j ∈ Region.ready md ops listed) :
    ∀ (ks L : List Nat), (∀ x ∈ L, x = j ∨ listed.getD x false = true) → ∀ x ∈ mark md ops ks L, x = j ∨ listed.getD x false = true := by
  intro ks
  induction ks with
  | nil => exact fun L h => h
  | cons k ks ih =>
    intro L h
    refine ih _ ?_
    split
    · rename_i hk
      split
      · rename_i o ho
        intro x hx
        rcases List.mem_append.1 hx with hx | hx
        · obtain ⟨e, he, rfl⟩ := List.mem_map.1 hx
          obtain ⟨he1, he2⟩ := List.mem_filter.1 he
          have he1' : e ∈ o.after := by simpa using he1
          rcases h k (by simpa using hk) with rfl | hl
          · obtain ⟨_, o', ho', hall⟩ := mem_ready.1 hj
            rw [ho] at ho'
            cases ho'
            exact .inr (hall e he1' he2)
          · exact .inr (hc k o ho hl e he1' he2)
        · exact h x hx
      · exact h
    · exact h

theorem not_tail {i j : Nat} {listed : Array Bool} (hc : Shut md ops listed) (ht : tailWaits md ops T i = true) (hi : i ∈ Region.ready md ops listed) (hj : j ∈ Region.ready md ops listed) : j ∉ T := by
  intro hm
  have h1 := List.all_eq_true.1 ht j hm
  simp only [Bool.and_eq_true, bne_iff_ne, ne_eq] at h1
  have h2 := (mark_listed hc hj _ [j] (fun x hx => .inl (by simpa using hx)) i (by simpa using h1.1)).resolve_left (fun e => h1.2 e.symm)
  have h0 := (mem_ready.1 hi).1
  rcases Nat.lt_or_ge i listed.size with h' | h'
  · simp [h'] at h0 h2
    rw [h0] at h2
    cases h2
  · simp [Array.getElem?_eq_none h'] at h2

theorem anyT_first {i : Nat} {oi : Oper} {v : Value} (hi : ops[i]? = some oi) (hs : Region.noSelect ops = true) (ht : tailWaits md ops T i = true)
    (hQ : ∀ c a w, Q (.panic c) (a.put oi.dst v) w → Q (.panic c) a w) :
    ∀ (n : Nat) (listed : Array Bool) (a : Act) (w : World),
      Shut md ops listed → (∀ j oj, ops[j]? = some oj → j ≠ i → listed.getD j true = false → (∀ e ∈ oj.after, Region.binds md e = true → e.on ≠ i) → oi.apart ops oj = true) →
      i ∈ Region.ready md ops listed → YieldsIf P ops S oi v a → S w → anyT P md ops Q S T n (listed.setIfInBounds i true) (a.put oi.dst v) w → anyT P md ops Q S T (n + 1) listed a w := by
  intro n
  induction n with
  | zero =>
    intro listed a w _ _ hr hy hS H
    refine ⟨fun h => (by rw [h] at hr; cases hr), fun j hj => ?_⟩
    by_cases e : j = i
    · subst e
      exact hy.wpOp hi hS ⟨fun _ => hS, H⟩
    · have h := ready_mono hj e
      rw [H.1] at h
      cases h
  | succ n ih =>
    intro listed a w hc hf hr hy hS H
    refine ⟨fun h => (by rw [h] at hr; cases hr), fun j hj => ?_⟩
    by_cases e : j = i
    · subst e
      exact hy.wpOp hi hS ⟨fun _ => hS, H⟩
    · obtain ⟨hju, oj, hoj, hall⟩ := mem_ready.1 hj
      have hno : ∀ e ∈ oj.after, Region.binds md e = true → e.on ≠ i := fun e he hb heq => by
        have h1 := hall e he hb
        have h0 := (mem_ready.1 hr).1
        rw [heq] at h1
        rcases Nat.lt_or_ge i listed.size with h' | h'
        · simp [h'] at h0 h1
          rw [h0] at h1
          cases h1
        · simp [Array.getElem?_eq_none h'] at h1
      have hnt : j ∉ T := not_tail hc ht hr hj
      have h2 := wpOp_putIf hoj (hf j oj hoj e hju hno) (fun cs b => Region.noSelect_spec hs i oi cs b hi) (fun cs b => Region.noSelect_spec hs j oj cs b hoj) hQ hy (H.2 j (ready_mono hj e))
      have hf' : ∀ k ok, ops[k]? = some ok → k ≠ i → (listed.setIfInBounds j true).getD k true = false → (∀ e ∈ ok.after, Region.binds md e = true → e.on ≠ i) → oi.apart ops ok = true := fun k ok hk hki hun hno => by
        refine hf k ok hk hki ?_ hno
        by_cases hjk : j = k
        · subst hjk
          exact hju
        · rw [getD_set_ne true hjk] at hun
          exact hun
      refine wpOp_mono (fun a' w' h3 => ⟨h3.2.1, ih (listed.setIfInBounds j true) a' w' (hc.set hj) hf' (ready_mono hr (Ne.symm e)) h3.1 (h3.2.1 hnt) ?_⟩) h2
      rw [Array.setIfInBounds_comm _ _ e]
      exact h3.2.2

/-- The walk by a plan: (i, true): number i only computes, or reads what stays; (i, false): number i is the only one that may come up. -/
def wpPlan (P : Program) (ops : Array Oper) (Q : Exit → Act → World → Prop) (S : World → Prop) (T : List Nat) : List (Nat × Bool) → Act → World → Prop
  | [], a, w => Q .normal a w
  | (i, true) :: l, a, w => ∃ o v, ops[i]? = some o ∧ YieldsIf P ops S o v a ∧ wpPlan P ops Q S T l (a.put o.dst v) w
  | (i, false) :: l, a, w => wpOp P ops Q i (fun a' w' => (i ∉ T → S w') ∧ wpPlan P ops Q S T l a' w') a w

def planOK (md : Region.Mode) (ops : Array Oper) (T : List Nat) : List (Nat × Bool) → Array Bool → Bool
  | [], listed => (Region.ready md ops listed).isEmpty
  | (i, true) :: l, listed => Region.free md ops listed i && (Region.ready md ops listed).contains i && tailWaits md ops T i && planOK md ops T l (listed.setIfInBounds i true)
  | (i, false) :: l, listed => (Region.ready md ops listed == [i]) && (!T.contains i || l.all fun x => !x.2) && planOK md ops T l (listed.setIfInBounds i true)

theorem anyT_of_plan (hs : Region.noSelect ops = true) (hQ : ∀ c a d v w, Q (.panic c) (Act.put a d v) w → Q (.panic c) a w) :
    ∀ (plan : List (Nat × Bool)) (listed : Array Bool) (a : Act) (w : World), Shut md ops listed → planOK md ops T plan listed = true → (S w ∨ plan.all (fun x => !x.2) = true) →
      wpPlan P ops Q S T plan a w → anyT P md ops Q S T plan.length listed a w := by
  intro plan
  induction plan with
  | nil =>
    intro listed a w _ hok _ h
    exact ⟨List.isEmpty_iff.1 hok, h⟩
  | cons x l ih =>
    obtain ⟨i, b⟩ := x
    intro listed a w hc hok hS h
    cases b with
    | true =>
      simp only [planOK, Bool.and_eq_true] at hok
      obtain ⟨⟨⟨h1, h2⟩, h3⟩, h4⟩ := hok
      have hS' : S w := hS.resolve_right (by simp)
      obtain ⟨o, v, ho, hy, hr⟩ := h
      exact anyT_first ho hs h3 (fun c a w => hQ c a o.dst v w) l.length listed a w hc (Region.free_spec ho h1) (by simpa using h2) hy hS' (ih _ _ _ (hc.set (by simpa using h2)) h4 (.inl hS') hr)
    | false =>
      simp only [planOK, Bool.and_eq_true, beq_iff_eq, Bool.or_eq_true, Bool.not_eq_true'] at hok
      obtain ⟨⟨h1, h2⟩, h3⟩ := hok
      refine ⟨fun h0 => by rw [h1] at h0; simp at h0, fun j hj => ?_⟩
      rw [h1] at hj
      obtain rfl : j = i := by simpa using hj
      refine wpOp_mono (fun a' w' k => ⟨k.1, ih _ _ _ (hc.set (by rw [h1]; simp)) h3 ?_ k.2⟩) h
      rcases h2 with h2 | h2
      · exact .inl (k.1 (by simpa using h2))
      · exact .inr (by simpa using h2)

theorem wp_region_plan {id : Nat} {a : Act} {w : World} (plan : List (Nat × Bool)) (T : List Nat) (hm : P.follows .mixedOrders = true)
    (hok : (planOK .any ops T plan (Array.replicate ops.size false) && plan.length == ops.size && Region.noSelect ops) = true)
    (hQ : ∀ c a d v w, Q (.panic c) (Act.put a d v) w → Q (.panic c) a w) (hS : S w.drew) (h : wpPlan P ops Q S T plan a w.drew) : (Code.region id ops true).wp P Q a w := by
  simp only [Bool.and_eq_true, beq_iff_eq] at hok
  refine wp_region_any hm (any_of_T (S := S) (T := T) _ _ _ _ ?_)
  rw [← hok.1.2]
  have h1 := hok.1.1
  rw [← hok.1.2] at h1
  exact anyT_of_plan hok.2 hQ plan _ a w.drew (Shut.none _ _ _) h1 (.inl hS) h

/-! ### The plan's operations written out, without their edges -/

structure Bit where
  pure : Bool
  tail : Bool
  gd : Option (Option Tmp × Bool)
  dst : Option Tmp
  op : Op
  ty : TypeId

def Bit.oper (x : Bit) : Oper := ⟨x.dst, x.op, x.ty, "", #[], none⟩

def okTo (tmps : Array Value) : Option (Option Tmp × Bool) → Bool
  | none => true
  | some (d, want) => (match d.bind (tmps[·]?) with
    | some (.bool b) => some b
    | _ => none) == some want

def bitOf (l : List Oper) (T : List Nat) (i : Nat) (b : Bool) : Option Oper → Bit
  | some o => ⟨b, T.contains i, match o.guard with
      | none => none
      | some (j, t) => some (match l[j]? with
        | some x => x.dst
        | none => none, t), o.dst, o.op, o.type⟩
  | none => ⟨b, true, none, none, .move (.tmp 0), 0⟩

def bits_ (l : List Oper) (T : List Nat) : List (Nat × Bool) → List Bit
  | [] => []
  | (i, b) :: r => bitOf l T i b l[i]? :: bits_ l T r

def wpBits (P : Program) (Q : Exit → Act → World → Prop) (S : World → Prop) : List Bit → Act → World → Prop
  | [], a, w => Q .normal a w
  | x :: l, a, w => match x.pure with
    | true => (okTo a.tmps x.gd = true ∧ ∃ v, (∀ w', S w' → (execOp a.eval x.oper).run P w' = .ok (.value v) w') ∧ wpBits P Q S l (a.put x.dst v) w) ∨ (okTo a.tmps x.gd = false ∧ wpBits P Q S l (a.put x.dst undef) w)
    | false => (okTo a.tmps x.gd = true ∧ x.oper.wp P a w (fun a' w' => (x.tail = true ∨ S w') ∧ wpBits P Q S l a' w') Q) ∨ (okTo a.tmps x.gd = false ∧ (x.tail = true ∨ S w) ∧ wpBits P Q S l (a.put x.dst undef) w)

theorem wanted_okTo (l : List Oper) (T : List Nat) (i : Nat) (b : Bool) (o : Oper) (tmps : Array Value) : Region.wanted o (yielded l.toArray tmps) = okTo tmps (bitOf l T i b (some o)).gd := by
  obtain ⟨d, op, ty, pos, af, g⟩ := o
  rcases g with _ | ⟨j, t⟩
  · rfl
  · simp only [Region.wanted, bitOf, okTo, yielded, List.getElem?_toArray]
    rcases l[j]? with _ | x <;> rfl

theorem wp_strip {K : Act → World → Prop} {a : Act} {w : World} (l : List Oper) (T : List Nat) (i : Nat) (b : Bool) (o : Oper) (h : (bitOf l T i b (some o)).oper.wp P a w K Q) : o.wp P a w K Q := by
  obtain ⟨d, op, ty, pos, af, g⟩ := o
  unfold Oper.wp at *
  exact h

theorem plan_of_bits {l : List Oper} : ∀ (plan : List (Nat × Bool)) (a : Act) (w : World), (plan.all fun x => decide (x.1 < l.length)) = true →
    wpBits P Q S (bits_ l T plan) a w → wpPlan P l.toArray Q S T plan a w := by
  intro plan
  induction plan with
  | nil => exact fun _ _ _ h => h
  | cons x r ih =>
    obtain ⟨i, b⟩ := x
    intro a w hl h
    simp only [List.all_cons, Bool.and_eq_true, decide_eq_true_eq] at hl
    obtain ⟨o, ho⟩ : ∃ o, l[i]? = some o := ⟨l[i]'hl.1, List.getElem?_eq_getElem hl.1⟩
    have ho' : l.toArray[i]? = some o := by rw [List.getElem?_toArray]; exact ho
    have hg := wanted_okTo l T i b o a.tmps
    have ht : ∀ {p : Prop}, ((bitOf l T i b (some o)).tail = true ∨ p) → i ∉ T → p := fun h hn => h.resolve_left (by simpa [bitOf] using hn)
    simp only [bits_, ho] at h
    cases b with
    | true =>
      rcases h with ⟨h1, v, hv, h2⟩ | ⟨h1, h2⟩
      · exact ⟨o, v, ho', .inl ⟨hg.trans h1, hv⟩, ih _ _ hl.2 h2⟩
      · exact ⟨o, undef, ho', .inr ⟨hg.trans h1, rfl⟩, ih _ _ hl.2 h2⟩
    | false =>
      simp only [wpPlan, wpOp, ho']
      rcases h with ⟨h1, h2⟩ | ⟨h1, h2, h3⟩
      · rw [if_pos (hg.trans h1)]
        exact .inl (Oper.wp_mono (fun a' w' k => ⟨ht k.1, ih _ _ hl.2 k.2⟩) (wp_strip l T i false o h2))
      · rw [if_neg (by rw [hg, h1]; simp)]
        exact ⟨ht h2, ih _ _ hl.2 h3⟩

theorem wp_region_bits_at {id : Nat} {l : List Oper} {a : Act} {w : World} (plan : List (Nat × Bool)) (T : List Nat) (hm : P.follows .mixedOrders = true)
    (hok : (planOK .any l.toArray T plan (Array.replicate l.toArray.size false) && plan.length == l.toArray.size && Region.noSelect l.toArray && plan.all fun x => decide (x.1 < l.length)) = true)
    (hQ : ∀ c a d v w, Q (.panic c) (Act.put a d v) w → Q (.panic c) a w) (hS : S w.drew) (h : wpBits P Q S (bits_ l T plan) a w.drew) : (Code.region id l.toArray true).wp P Q a w := by
  rw [Bool.and_eq_true] at hok
  exact wp_region_plan plan T hm hok.1 hQ hS (plan_of_bits plan a w.drew hok.2 h)
/-- What was there stays, behind every operation but the tail's. -/
theorem wp_region_bits {id : Nat} {l : List Oper} {a : Act} {w : World} (plan : List (Nat × Bool)) (T : List Nat) (hm : P.follows .mixedOrders = true)
    (hok : (planOK .any l.toArray T plan (Array.replicate l.toArray.size false) && plan.length == l.toArray.size && Region.noSelect l.toArray && plan.all fun x => decide (x.1 < l.length)) = true)
    (hQ : ∀ c a d v w, Q (.panic c) (Act.put a d v) w → Q (.panic c) a w) (h : wpBits P Q (Keep w) (bits_ l T plan) a w.drew) : (Code.region id l.toArray true).wp P Q a w :=
  wp_region_bits_at plan T hm hok hQ (Keep.refl w) h
/-- Nothing is asked of the world: no operation but the effects reads it. -/
def Free (_ : World) : Prop := True
theorem Free.yes (w : World) : Free w := trivial
theorem wp_region_free {id : Nat} {l : List Oper} {a : Act} {w : World} (plan : List (Nat × Bool)) (T : List Nat) (hm : P.follows .mixedOrders = true)
    (hok : (planOK .any l.toArray T plan (Array.replicate l.toArray.size false) && plan.length == l.toArray.size && Region.noSelect l.toArray && plan.all fun x => decide (x.1 < l.length)) = true)
    (hQ : ∀ c a d v w, Q (.panic c) (Act.put a d v) w → Q (.panic c) a w) (h : wpBits P Q Free (bits_ l T plan) a w.drew) : (Code.region id l.toArray true).wp P Q a w :=
  wp_region_bits_at plan T hm hok hQ trivial h

variable {a : Act} {w : World} {l : List Bit} {g : Option (Option Tmp × Bool)} {d : Option Tmp} {op : Op} {ty : TypeId} {t : Bool}
theorem bits_nil (h : Q .normal a w) : wpBits P Q S [] a w := h
theorem bits_take {v : Value} (hg : okTo a.tmps g = true) (hy : ∀ w', S w' → (execOp a.eval ⟨d, op, ty, "", #[], none⟩).run P w' = .ok (.value v) w')
    (h : wpBits P Q S l (a.put d v) w) : wpBits P Q S (⟨true, t, g, d, op, ty⟩ :: l) a w := .inl ⟨hg, v, hy, h⟩
theorem bits_skip (hg : okTo a.tmps g = false) (h : wpBits P Q S l (a.put d undef) w) : wpBits P Q S (⟨true, t, g, d, op, ty⟩ :: l) a w := .inr ⟨hg, h⟩
theorem bits_pass (hg : okTo a.tmps g = false) (hS : S w) (h : wpBits P Q S l (a.put d undef) w) : wpBits P Q S (⟨false, t, g, d, op, ty⟩ :: l) a w := .inr ⟨hg, .inr hS, h⟩
theorem bits_pass_tail (hg : okTo a.tmps g = false) (h : wpBits P Q S l (a.put d undef) w) : wpBits P Q S (⟨false, true, g, d, op, ty⟩ :: l) a w := .inr ⟨hg, .inl rfl, h⟩
theorem bits_eff (hg : okTo a.tmps g = true) (h : ∀ K : Act → World → Prop, (∀ a' w', S w' → wpBits P Q S l a' w' → K a' w') → Oper.wp P ⟨d, op, ty, "", #[], none⟩ a w K Q) :
    wpBits P Q S (⟨false, t, g, d, op, ty⟩ :: l) a w := .inl ⟨hg, h _ fun _ _ hS hl => ⟨.inr hS, hl⟩⟩
theorem bits_tail (hg : okTo a.tmps g = true) (h : ∀ K : Act → World → Prop, (∀ a' w', wpBits P Q S l a' w' → K a' w') → Oper.wp P ⟨d, op, ty, "", #[], none⟩ a w K Q) :
    wpBits P Q S (⟨false, true, g, d, op, ty⟩ :: l) a w := .inl ⟨hg, h _ fun _ _ hl => ⟨.inl rfl, hl⟩⟩
end
attribute [irreducible] wpBits

theorem alloc_drewN (w : World) (n : Nat) (o : Obj) : (w.drewN n).alloc o = (w.alloc o).drewN n := rfl
theorem setCell_drewN (w : World) (n : Nat) (a : Addr) (v : Value) : (w.drewN n).setCell a v = (w.setCell a v).drewN n := rfl
theorem below_drewN {B : Nat} {a w : World} (h : Below B a w) (n : Nat) : Below B a (w.drewN n) := ⟨h.os, h.tape, h.output, h.size, h.block⟩
end Go.Proofs.YtlhcehealjdbdaaDoor
/- A screen's cells: as data, as they lie in memory, and rows of them that the caller made. -/
namespace Go.Proofs.YtlhcehealjdbdaaDoor
open Go.RowKit
/-- A cell: rune, width, colours, looks, link. -/
structure Glyph where
  r : Int
  w : Int
  f : Int
  b : Int
  a : Int
  l : Int
  deriving DecidableEq
def g0 : Glyph := ⟨0, 0, 0, 0, 0, 0⟩
def Glyph.cells (c : Glyph) : List Value := [.int .i32 c.r, .int .u8 c.w, .int .u32 c.f, .int .u32 c.b, .int .u8 c.a, .int .u16 c.l]
def flat : List Glyph → List Value
  | [] => []
  | c :: cs => c.cells ++ flat cs
theorem flat_len (xs : List Glyph) : (flat xs).length = xs.length * 6 := by
  induction xs with
  | nil => rfl
  | cons c cs ih => simp [flat, Glyph.cells, ih]; omega
theorem flat_app (xs ys : List Glyph) : flat (xs ++ ys) = flat xs ++ flat ys := by
  induction xs with
  | nil => rfl
  | cons c cs ih => simp [flat, ih]
theorem flat_at : ∀ {xs : List Glyph} {i j : Nat}, i < xs.length → j < 6 → (flat xs)[i * 6 + j]? = (xs.getD i g0).cells[j]?
  | [], _, _, h, _ => absurd h (by simp)
  | c :: cs, 0, j, _, hj => by
    simp only [flat, Nat.zero_mul, Nat.zero_add, List.getD_cons_zero]
    rw [List.getElem?_append_left (by simpa [Glyph.cells] using hj)]
  | c :: cs, i + 1, j, h, hj => by
    have h6 : c.cells.length = 6 := rfl
    simp only [flat, List.getD_cons_succ]
    rw [List.getElem?_append_right (by omega), h6, show (i + 1) * 6 + j - 6 = i * 6 + j from by omega]
    exact flat_at (by simpa using h) hj
theorem flat_one (xs : List Glyph) : ∀ u ∈ flat xs, u.oneCell' = true := by
  induction xs with
  | nil => simp [flat]
  | cons c cs ih =>
    intro u hu
    rcases List.mem_append.1 hu with h | h
    · simp only [Glyph.cells, List.mem_cons, List.not_mem_nil, or_false] at h
      rcases h with rfl | rfl | rfl | rfl | rfl | rfl <;> rfl
    · exact ih u h
theorem flat_set : ∀ {xs : List Glyph} {i j : Nat} {c : Glyph} {u : Value}, i < xs.length → j < 6 → (xs.getD i g0).cells.set j u = c.cells → (flat xs).set (i * 6 + j) u = flat (xs.set i c)
  | [], _, _, _, _, h, _, _ => absurd h (by simp)
  | d :: cs, 0, j, c, u, _, hj, hc => by
    simp only [List.getD_cons_zero] at hc
    simp only [flat, Nat.zero_mul, Nat.zero_add, List.set_cons_zero]
    rw [List.set_append_left _ _ (by simpa [Glyph.cells] using hj), hc]
  | d :: cs, i + 1, j, c, u, h, hj, hc => by
    have h6 : d.cells.length = 6 := rfl
    simp only [List.getD_cons_succ] at hc
    simp only [flat, List.set_cons_succ]
    rw [List.set_append_right _ _ (by omega), h6, show (i + 1) * 6 + j - 6 = i * 6 + j from by omega, flat_set (by simpa using h) hj hc]
/-- The cell lies there. -/
def GAt (w : World) (b o : Nat) (c : Glyph) : Prop :=
  w.cell? ⟨b, o, none⟩ = some (.int .i32 c.r) ∧ w.cell? ⟨b, o + 1, none⟩ = some (.int .u8 c.w) ∧ w.cell? ⟨b, o + 2, none⟩ = some (.int .u32 c.f) ∧
  w.cell? ⟨b, o + 3, none⟩ = some (.int .u32 c.b) ∧ w.cell? ⟨b, o + 4, none⟩ = some (.int .u8 c.a) ∧ w.cell? ⟨b, o + 5, none⟩ = some (.int .u16 c.l)
/-- The slice's elements are xs. -/
def Cells (w : World) (a : Option Addr) (n : Nat) (xs : List Glyph) : Prop :=
  xs.length = n ∧ n ≤ 9223372036854775807 ∧ (0 < n → ∃ b off, a = some ⟨b, off, none⟩ ∧ b < w.heap.size ∧ ∀ i, i < n → GAt w b (off + i * 6) (xs.getD i g0))
theorem GAt.same {w w' : World} {b o : Nat} {c : Glyph} (h : GAt w b o c) (k : ∀ p : Addr, p.block = b → w'.cell? p = w.cell? p) : GAt w' b o c :=
  ⟨(k _ rfl).trans h.1, (k _ rfl).trans h.2.1, (k _ rfl).trans h.2.2.1, (k _ rfl).trans h.2.2.2.1, (k _ rfl).trans h.2.2.2.2.1, (k _ rfl).trans h.2.2.2.2.2⟩
theorem Cells.none {w : World} {a : Option Addr} : Cells w a 0 [] := ⟨rfl, by omega, fun h => absurd h (by omega)⟩
theorem Cells.below {w w' : World} {a : Option Addr} {n : Nat} {xs : List Glyph} (h : Cells w a n xs) (hb : Below w.heap.size w w') : Cells w' a n xs := by
  refine ⟨h.1, h.2.1, fun h0 => ?_⟩
  obtain ⟨b, off, he, hb', hc⟩ := h.2.2 h0
  exact ⟨b, off, he, Nat.lt_of_lt_of_le hb' hb.size, fun i hi => (hc i hi).same fun p hp => hb.cell (by omega)⟩
theorem Cells.alloc {w : World} {a : Option Addr} {n : Nat} {xs : List Glyph} (h : Cells w a n xs) (o : Obj) : Cells (w.alloc o) a n xs := h.below ((Below.refl _ _).alloc (Nat.le_refl _) o)
theorem Cells.draws {w : World} {a : Option Addr} {n : Nat} {xs : List Glyph} (h : Cells w a n xs) (m : Nat) : Cells (w.drewN m) a n xs := h
/-- A row of cells of the caller's own. -/
def CRow (w : World) (base : Nat) (v : Value) (xs : List Glyph) : Prop := w.ownsRow base 28 6 v xs.length (flat xs)
section
variable {w w' : World} {base : Nat} {v : Value} {xs : List Glyph}
theorem CRow.nil (w : World) (base : Nat) : CRow w base (.slice none 0 0) [] := World.ownsRow_nil w base 28 6
theorem CRow.up (h : CRow w base v xs) {b : Nat} (hb : b ≤ base) : CRow w b v xs := by
  refine ⟨h.1, ?_⟩
  rcases h.2 with hn | ⟨g, cap, cur, h1, h2, h3⟩
  · exact .inl hn
  · exact .inr ⟨g, cap, cur, h1, Nat.le_trans hb h2, h3⟩
theorem CRow.below (h : CRow w base v xs) (hb : Below w.heap.size w w') : CRow w' base v xs := by
  refine ⟨h.1, ?_⟩
  rcases h.2 with hn | ⟨g, cap, cur, h1, h2, h3, h4⟩
  · exact .inl hn
  · exact .inr ⟨g, cap, cur, h1, h2, (hb.block g (Array.getElem?_eq_some_iff.1 h3).1).trans h3, h4⟩
theorem CRow.draws (h : CRow w base v xs) (m : Nat) : CRow (w.drewN m) base v xs := h
theorem CRow.alloc (h : CRow w base v xs) (o : Obj) : CRow (w.alloc o) base v xs := World.ownsRow.alloc h o
theorem crow_len {a : Option Addr} {n c : Nat} (h : CRow w base (.slice a n c) xs) : xs.length = n := by
  rcases h.2 with ⟨h1, h2⟩ | ⟨g, cap, cur, h1, _⟩
  · injection h1 with _ h1 _
    omega
  · injection h1 with _ h1 _
    exact h1.symm
theorem crow_addr {a : Option Addr} {n c : Nat} (h : CRow w base (.slice a n c) xs) (h0 : 0 < n) : ∃ g, a = some ⟨g, 0, none⟩ := by
  rcases h.2 with ⟨h1, h2⟩ | ⟨g, cap, cur, h1, _⟩
  · injection h1 with _ h1 _
    omega
  · injection h1 with h1 _ _
    exact ⟨g, h1⟩
theorem gplain_add (g j : Nat) : (⟨g, 0, none⟩ : Addr).add j = ⟨g, j, none⟩ := by unfold Addr.add; split <;> simp_all
theorem CRow.cells (h : CRow w base v xs) : ∃ a c, v = .slice a xs.length c ∧ Cells w a xs.length xs := by
  rcases h.2 with ⟨h1, h2⟩ | ⟨g, cap, cur, h1, h2, h3, h4, h5, _⟩
  · exact ⟨none, 0, by rw [h1, h2], rfl, by omega, fun h0 => by omega⟩
  · refine ⟨_, cap, h1, rfl, by unfold maxLen at h5; omega, fun h0 => ⟨g, 0, rfl, (Array.getElem?_eq_some_iff.1 h3).1, fun i hi => ?_⟩⟩
    have key : ∀ j u, j < 6 → (xs.getD i g0).cells[j]? = some u → w.cell? ⟨g, i * 6 + j, none⟩ = some u := fun j u hj hu => by
      have := World.ownsRow.cells h (g := g) (by rw [h1]; rfl) (i * 6 + j) u ((flat_at hi hj).trans hu)
      rwa [gplain_add] at this
    rw [Nat.zero_add]
    exact ⟨key 0 _ (by omega) rfl, key 1 _ (by omega) rfl, key 2 _ (by omega) rfl, key 3 _ (by omega) rfl, key 4 _ (by omega) rfl, key 5 _ (by omega) rfl⟩
theorem cells_of {a : Option Addr} {n c : Nat} (h : CRow w base (.slice a n c) xs) : Cells w a n xs := by
  obtain ⟨a', c', h1, h2⟩ := h.cells
  injection h1 with h3 h4 h5
  subst h3 h4
  exact h2
theorem crow_at {g n c k : Nat} (h : CRow w base (.slice (some ⟨g, 0, none⟩) n c) xs) (hk : k < n) : GAt w g (k * 6) (xs.getD k g0) ∧ base ≤ g ∧ ∀ j, w.frozen? ⟨g, j, none⟩ = false := by
  have h1 := cells_of h
  obtain ⟨b, off, he, _, hc⟩ := h1.2.2 (by omega)
  injection he with he
  injection he with h2 h3
  subst h2 h3
  have := hc k hk
  rw [Nat.zero_add] at this
  refine ⟨this, ?_⟩
  rcases h.2 with ⟨h1, _⟩ | ⟨g', cap, cur, h1, h2, h3, _⟩
  · cases h1
  · injection h1 with h0 h1 h8
    injection h0 with h0
    injection h0 with h0
    subst h0
    have ho : Own w g 28 cur := h3
    exact ⟨h2, fun j => Own.frozen ho j⟩
theorem gtake_set (L : List Value) (m k : Nat) (u : Value) : (L.set k u).take m = (L.take m).set k u := by
  refine List.ext_getElem? fun j => ?_
  rw [List.getElem?_take, List.getElem?_set, List.getElem?_set, List.getElem?_take, List.length_take]
  by_cases h1 : j < m
  · rw [if_pos h1, if_pos h1]
    by_cases h2 : k = j
    · rw [if_pos h2, if_pos h2]
      by_cases h3 : k < L.length
      · rw [if_pos h3, if_pos (by omega)]
      · rw [if_neg h3, if_neg (by omega)]
    · rw [if_neg h2, if_neg h2]
  · rw [if_neg h1, if_neg h1]
    by_cases h2 : k = j
    · rw [if_pos h2, if_neg (by omega)]
    · rw [if_neg h2]
/-- One value of one cell is stored. -/
theorem crow_put {g n c k j : Nat} {d : Glyph} {u : Value} (h : CRow w base (.slice (some ⟨g, 0, none⟩) n c) xs) (hk : k < n) (hj : j < 6) (hd : (xs.getD k g0).cells.set j u = d.cells) :
    CRow (w.setCell ⟨g, k * 6 + j, none⟩ u) base (.slice (some ⟨g, 0, none⟩) n c) (xs.set k d) := by
  have hz := crow_len h
  rcases h.2 with ⟨h1, _⟩ | ⟨g', cap, cur, h1, h2, h3, h4, h5, h6, h7⟩
  · cases h1
  · injection h1 with h0 h1 h8
    injection h0 with h0
    injection h0 with h0
    subst h0 h8
    have ho : Own w g 28 cur := h3
    refine ⟨by rw [flat_len], .inr ⟨g, c, _, by rw [List.length_set, hz], h2, ho.store (k * 6 + j) u, by rw [List.length_set]; omega, h5, by simp; omega, ?_⟩⟩
    rw [List.length_set, hz]
    rw [hz] at h7
    rw [Array.toList_setIfInBounds, gtake_set, h7]
    exact flat_set (by omega) hj hd
theorem set_getD {k : Nat} {d : Glyph} (h : k < xs.length) : (xs.set k d).getD k g0 = d := by
  rw [List.getD_eq_getElem?_getD, List.getElem?_set_self h]
  rfl
/-- A whole cell is stored. -/
theorem crow_set {g n c k : Nat} (d : Glyph) (h : CRow w base (.slice (some ⟨g, 0, none⟩) n c) xs) (hk : k < n) :
    CRow ((((((w.setCell ⟨g, k * 6, none⟩ (.int .i32 d.r)).setCell ⟨g, k * 6 + 1, none⟩ (.int .u8 d.w)).setCell ⟨g, k * 6 + 2, none⟩ (.int .u32 d.f)).setCell ⟨g, k * 6 + 3, none⟩ (.int .u32 d.b)).setCell ⟨g, k * 6 + 4, none⟩ (.int .u8 d.a)).setCell ⟨g, k * 6 + 5, none⟩ (.int .u16 d.l)) base (.slice (some ⟨g, 0, none⟩) n c) (xs.set k d) := by
  have hz := crow_len h
  obtain ⟨e, he⟩ : ∃ e, xs.getD k g0 = e := ⟨_, rfl⟩
  have h0 := crow_put (j := 0) (d := ⟨d.r, e.w, e.f, e.b, e.a, e.l⟩) (u := .int .i32 d.r) h hk (by omega) (by rw [he]; rfl)
  have h1 := crow_put (j := 1) (d := ⟨d.r, d.w, e.f, e.b, e.a, e.l⟩) (u := .int .u8 d.w) h0 hk (by omega) (by rw [set_getD (by omega)]; rfl)
  rw [List.set_set] at h1
  have h2 := crow_put (j := 2) (d := ⟨d.r, d.w, d.f, e.b, e.a, e.l⟩) (u := .int .u32 d.f) h1 hk (by omega) (by rw [set_getD (by omega)]; rfl)
  rw [List.set_set] at h2
  have h3 := crow_put (j := 3) (d := ⟨d.r, d.w, d.f, d.b, e.a, e.l⟩) (u := .int .u32 d.b) h2 hk (by omega) (by rw [set_getD (by omega)]; rfl)
  rw [List.set_set] at h3
  have h4 := crow_put (j := 4) (d := ⟨d.r, d.w, d.f, d.b, d.a, e.l⟩) (u := .int .u8 d.a) h3 hk (by omega) (by rw [set_getD (by omega)]; rfl)
  rw [List.set_set] at h4
  have h5 := crow_put (j := 5) (d := d) (u := .int .u16 d.l) h4 hk (by omega) (by rw [set_getD (by omega)]; rfl)
  rw [List.set_set] at h5
  exact h5
theorem crow_kept {g i : Nat} (h : CRow w base v xs) (hg : g < base) (u : Value) : CRow (w.setCell ⟨g, i, none⟩ u) base v xs := by
  refine World.ownsRow.kept h (turn_store (turn_refl w _) i u) (.inr fun e => ?_)
  have := (World.ownsRow.lt h g e).1
  omega
end
theorem below_set6 {B g : Nat} {a w : World} (h : Below B a w) (hg : B ≤ g) (o0 o1 o2 o3 o4 o5 : Nat) (u0 u1 u2 u3 u4 u5 : Value) :
    Below B a ((((((w.setCell ⟨g, o0, none⟩ u0).setCell ⟨g, o1, none⟩ u1).setCell ⟨g, o2, none⟩ u2).setCell ⟨g, o3, none⟩ u3).setCell ⟨g, o4, none⟩ u4).setCell ⟨g, o5, none⟩ u5) :=
  (((((h.setCell (p := ⟨g, o0, none⟩) hg u0).setCell (p := ⟨g, o1, none⟩) hg u1).setCell (p := ⟨g, o2, none⟩) hg u2).setCell (p := ⟨g, o3, none⟩) hg u3).setCell (p := ⟨g, o4, none⟩) hg u4).setCell (p := ⟨g, o5, none⟩) hg u5
theorem ginfoE : Tryd.prog.info? 28 = some Tryd.t28 := by kernel_rfl
theorem gzeroE : Tryd.t28.zero = some (.agg #[.int .i32 0, .int .u8 0, .int .u32 0, .int .u32 0, .int .u8 0, .int .u16 0]) := by kernel_rfl
end Go.Proofs.YtlhcehealjdbdaaDoor
/- Rows of cells copied: the laws of copy and append at elements of several values, and the functions that copy and compare. -/
namespace Go.Proofs.YtlhcehealjdbdaaDoor
open Go.RowKit
attribute [local go_sem] alloc_drewN setCell_drewN

section
variable {P : Program}
theorem run_copy_rows (w : World) (dT sT ty elem : TypeId) (g o dLen dCap : Nat) (a : Addr) (sLen sCap : Nat) (cur : Array Value) (t : TypeId) (cs : List Value) (size m : Nat)
    (hu : P.underlying dT = some (.slice elem)) (hs : (P.info? elem).map (·.size) = some size)
    (hg : w.heap[g]? = some (.cells cur t (0, 0))) (hm : m = Nat.min sLen dLen) (hn : cs.length = m * size)
    (hsrc : ∀ j v, cs[j]? = some v → w.cell? (a.add j) = some v) (hfit : o + cs.length ≤ cur.size) (h1 : ∀ v ∈ cs, v.oneCell' = true) :
    (Builtin.copy_ #[dT, sT] ty #[.slice (some ⟨g, o, none⟩) dLen dCap, .slice (some a) sLen sCap]).run P w =
      .ok (goInt m) (w.setRow g (cur.toList.take o ++ cs ++ cur.toList.drop (o + cs.length)).toArray) := by
  have hl := run_loadCells_list (P := P) w a cs hsrc
  have hst := run_storeCells_at P g o t cs 0 cur w hg (by simpa using hfit) h1
  cases hq : P.info? elem with
  | none => simp [hq] at hs
  | some i =>
    have hi : i.size = size := by simpa [hq] using hs
    simp [Builtin.copy_, run_underlying hu, Builtin.lenOf, Builtin.firstCells, sizeOf, typeInfo, hq, hi, ← hm, ← hn, hl, hst]
theorem run_copy_zero (w : World) (dT sT ty elem : TypeId) (d a : Option Addr) (dLen dCap sLen sCap : Nat) (size : Nat) (hu : P.underlying dT = some (.slice elem)) (hs : (P.info? elem).map (·.size) = some size) (hn : Nat.min sLen dLen = 0) :
    (Builtin.copy_ #[dT, sT] ty #[.slice d dLen dCap, .slice a sLen sCap]).run P w = .ok (goInt 0) w := by
  cases hq : P.info? elem with
  | none => simp [hq] at hs
  | some i =>
    have hl : ∀ (x : Addr), (loadCells x 0).run P w = .ok #[] w := fun x => by simpa using run_loadCells_list (P := P) w x [] (by simp)
    cases d <;> cases a <;> simp [Builtin.copy_, run_underlying hu, Builtin.lenOf, Builtin.firstCells, sizeOf, typeInfo, hq, hn, storeCells, hl]
/-- A copy into a block that is known whole: the values are laid over it. -/
theorem gcopy_op {o : Oper} {a : Act} {w : World} {K : Act → World → Prop} {Q : Exit → Act → World → Prop} (d s : Operand) (dT sT : TypeId)
    (ho : o.op = .call { callee := .builtin .copy, args := #[d, s], argTypes := #[dT, sT] }) (elem : TypeId) (size : Nat) (hu : P.underlying dT = some (.slice elem)) (hsz : (P.info? elem).map (·.size) = some size)
    (dp sp : Option Addr) (dLen dCap sLen sCap : Nat) (hd : a.eval d = .slice dp dLen dCap) (hs : a.eval s = .slice sp sLen sCap)
    (g off : Nat) (cur : List Value) (t : TypeId) (hg : w.heap[g]? = some (.cells cur.toArray t (0, 0))) (cs : List Value) (m : Nat) (hm : m = Nat.min sLen dLen) (hn : cs.length = m * size)
    (hpos : 0 < m → dp = some ⟨g, off, none⟩ ∧ ∃ ad, sp = some ad ∧ ∀ j v, cs[j]? = some v → w.cell? (ad.add j) = some v)
    (hfit : off + cs.length ≤ cur.length) (h1 : ∀ v ∈ cs, v.oneCell' = true) (B : Nat) (w0 : World) (hb : Below B w0 w) (hBg : B ≤ g)
    (h : ∀ w', Hid (w'.heap[g]? = some (.cells (splice cur off cs).toArray t (0, 0))) → Below B w0 w' → Hid (w.grownBy w' (some g)) → K (a.put o.dst (goInt m)) w') :
    Oper.wp P o a w K Q := by
  by_cases h0 : m = 0
  · subst h0
    obtain rfl : cs = [] := List.eq_nil_of_length_eq_zero (by omega)
    have hrun := run_copy_zero (P := P) w dT sT o.type elem dp sp dLen dCap sLen sCap size hu hsz hm.symm
    unfold Oper.wp
    simp [execOp, ho, resolve, invoke, builtin, hd, hs, hrun, Result.andThen]
    exact h w (show _ = _ by simpa [splice] using hg) hb (turn_refl w _)
  · obtain ⟨rfl, ad, rfl, hsrc⟩ := hpos (by omega)
    have hrun := run_copy_rows (P := P) w dT sT o.type elem g off dLen dCap ad sLen sCap cur.toArray t cs size m hu hsz hg hm hn hsrc (by simpa using hfit) h1
    unfold Oper.wp
    simp [execOp, ho, resolve, invoke, builtin, hd, hs, hrun, Result.andThen]
    refine h _ (show _ = _ by simpa [splice] using setRow_heap w g _ _ t _ hg) (below_setRow hb hBg _) ?_
    exact ⟨rfl, rfl, rfl, by simp [World.setRow], fun k hk hne => setRow_other w g k _ (by rintro rfl; exact hne rfl)⟩
theorem gcopy_list {ops : Array Oper} {rest : List Oper} {o : Oper} {a : Act} {w : World} {Q : Exit → Act → World → Prop} (hgd : o.guard = none) (d s : Operand) (dT sT : TypeId)
    (ho : o.op = .call { callee := .builtin .copy, args := #[d, s], argTypes := #[dT, sT] }) (elem : TypeId) (size : Nat) (hu : P.underlying dT = some (.slice elem)) (hsz : (P.info? elem).map (·.size) = some size)
    (dp sp : Option Addr) (dLen dCap sLen sCap : Nat) (hd : a.eval d = .slice dp dLen dCap) (hs : a.eval s = .slice sp sLen sCap)
    (g off : Nat) (cur : List Value) (t : TypeId) (hg : w.heap[g]? = some (.cells cur.toArray t (0, 0))) (cs : List Value) (m : Nat) (hm : m = Nat.min sLen dLen) (hn : cs.length = m * size)
    (hpos : 0 < m → dp = some ⟨g, off, none⟩ ∧ ∃ ad, sp = some ad ∧ ∀ j v, cs[j]? = some v → w.cell? (ad.add j) = some v)
    (hfit : off + cs.length ≤ cur.length) (h1 : ∀ v ∈ cs, v.oneCell' = true) (B : Nat) (w0 : World) (hb : Below B w0 w) (hBg : B ≤ g)
    (h : ∀ w', Hid (w'.heap[g]? = some (.cells (splice cur off cs).toArray t (0, 0))) → Below B w0 w' → Hid (w.grownBy w' (some g)) → wpList P ops Q rest (a.put o.dst (goInt m)) w') :
    wpList P ops Q (o :: rest) a w :=
  wpList_plain hgd fun _ hK => gcopy_op d s dT sT ho elem size hu hsz dp sp dLen dCap sLen sCap hd hs g off cur t hg cs m hm hn hpos hfit h1 B w0 hb hBg fun w' h1 h2 h3 => hK _ _ (h w' h1 h2 h3)
end
section
variable {w : World} {ops : Array Oper} {rest : List Oper} {o : Oper} {a : Act} {Q : Exit → Act → World → Prop}
theorem cells_src {ad : Addr} {xs : List Glyph} (hu : Cells w (some ad) xs.length xs) : ∀ j u, (flat xs)[j]? = some u → w.cell? (ad.add j) = some u := by
  intro j u hj
  have hjl : j < xs.length * 6 := by
    rcases Nat.lt_or_ge j (xs.length * 6) with k | k
    · exact k
    · rw [List.getElem?_eq_none (by rw [flat_len]; exact k)] at hj
      cases hj
  obtain ⟨b, off, he, _, hc⟩ := hu.2.2 (by omega)
  injection he with he
  subst he
  obtain ⟨i, r, hr, rfl⟩ : ∃ i r, r < 6 ∧ j = i * 6 + r := ⟨j / 6, j % 6, Nat.mod_lt _ (by omega), by omega⟩
  have hi : i < xs.length := by omega
  rw [flat_at hi hr] at hj
  obtain ⟨h0, h1, h2, h3, h4, h5⟩ := hc i hi
  rw [Go.WideShapes.add_plain]
  match r, hr with
  | 0, _ => simp [Glyph.cells] at hj; subst hj; exact h0
  | 1, _ => simp [Glyph.cells] at hj; subst hj; exact h1
  | 2, _ => simp [Glyph.cells] at hj; subst hj; exact h2
  | 3, _ => simp [Glyph.cells] at hj; subst hj; exact h3
  | 4, _ => simp [Glyph.cells] at hj; subst hj; exact h4
  | 5, _ => simp [Glyph.cells] at hj; subst hj; exact h5
/-- 'append([]T{}, xs...)', xs whatever, but not nil. -/
theorem gapp_in (hgd : o.guard = none) (s x : Operand) (ho : o.op = .call { callee := .builtin .append, args := #[s, x], argTypes := #[29, 29] })
    {lo : Nat} {v : Value} (hs : a.eval s = v) (hown : w.ownsRow lo 28 6 v 0 []) {ad : Addr} {c : Nat} {xs : List Glyph} (hx : a.eval x = .slice (some ad) xs.length c) (hu : Cells w (some ad) xs.length xs) (hl : xs.length ≤ 1000000) (hlo : lo ≤ w.heap.size)
    (h : ∀ v' w', CRow w' lo v' xs → Below lo w w' → wpList Tryd.prog ops Q rest (a.put o.dst v') w') : wpList Tryd.prog ops Q (o :: rest) a w := by
  refine wpList_append_own w hgd s x 29 ho lo 28 _ _ 6 20 Tryd.underlying29 ginfoE gzeroE (by kernel_rfl) (by kernel_rfl) rfl (by decide) v 0 [] hs hown ad xs.length c (flat xs) hx (flat_len xs)
    (cells_src hu) (flat_one xs) (by unfold maxLen; omega) (by omega) hlo (fun v' w' r1 r2 _ => h v' w' ?_ ?_)
  · show w'.ownsRow lo 28 6 v' xs.length (flat xs)
    simpa only [Nat.zero_add, List.nil_append] using r1
  · exact (Below.refl lo w).grown r2 hlo (fun k hk => (World.ownsRow.lt hown k hk).1)
end
theorem gempty_row (w : World) : (w.alloc (.cells #[] 28)).ownsRow w.heap.size 28 6 (.slice (some ⟨w.heap.size, 0, none⟩) 0 0) 0 [] :=
  World.ownsRow_made (base := w.heap.size) (e := 28) (size := 6) w #[] 0 (Nat.le_refl _) (by decide) rfl
def GPost (xs : List Glyph) (w : World) (e : Ending) (w' : World) : Prop := ∃ v', e = .returned v' ∧ CRow w' w.heap.size v' xs ∧ Below w.heap.size w w'
theorem gclone_any (a : Option Addr) (n c : Nat) (xs : List Glyph) (w : World) (hl : Cells w a n xs) (hm : n ≤ 1000000) : Calls Tryd.prog 58 #[.slice a n c] w (GPost xs w) := by
  have hlen := hl.1
  subst hlen
  cases a with
  | none =>
    have hx : xs = [] := by
      rcases Nat.eq_zero_or_pos xs.length with h | h
      · exact List.eq_nil_of_length_eq_zero h
      · obtain ⟨_, _, h, _⟩ := hl.2.2 h
        cases h
    clear hl hm
    subst hx
    simp only [List.length_nil]
    have hnil : ∀ W, (binOp .eql 29 (.slice none 0 c) (.slice none 0 0)).run Tryd.prog W = .ok (.bool true) W := fun W => Lib.run_eql_slice_nil_nil W _ _ Tryd.underlying29
    go_enter Tryd.func58, Tryd.ntmps58
    go_wp2_with fail
    go_ret
    exact ⟨_, rfl, CRow.nil _ _, Below.refl _ _⟩
  | some ad =>
    have HL := Lib.hid hl
    clear hl
    have hnil : ∀ W, (binOp .eql 29 (.slice (some ad) xs.length c) (.slice none 0 0)).run Tryd.prog W = .ok (.bool false) W := fun W => Lib.run_eql_slice_some_nil W _ _ _ Tryd.underlying29
    go_enter Tryd.func58, Tryd.ntmps58
    go_wp2_with (first
      | (at_builtin; refine gapp_in rfl _ _ rfl rfl (gempty_row w) rfl (HL.out.alloc _) hm (by simp) ?_; intro v1 w1 r1 b1)
      | go_in)
    go_ret
    exact ⟨_, rfl, r1, ((Below.refl _ _).alloc (Nat.le_refl _) _).trans b1⟩
theorem gbytes : Tryd.t28.bytes = 20 := by kernel_rfl
theorem gsize : (Tryd.prog.info? 28).map (·.size) = some 6 := by kernel_rfl
theorem gcopied {w' : World} {base g n : Nat} {xs : List Glyph} {cur : List Value} (hn : xs.length = n) (hb : base ≤ g) (hm : n ≤ 1000000) (hc : cur.length = n * 6) (h : w'.heap[g]? = some (.cells (splice cur 0 (flat xs)).toArray 28 (0, 0))) : CRow w' base (.slice (some ⟨g, 0, none⟩) n n) xs := by
  have he : splice cur 0 (flat xs) = flat xs := by
    have : cur.drop (flat xs).length = [] := List.drop_eq_nil_of_le (by rw [flat_len]; omega)
    simp [splice, this]
  rw [he] at h
  refine ⟨flat_len xs, .inr ⟨g, n, _, by rw [hn], hb, h, by omega, by unfold maxLen; omega, by simp [flat_len]; omega, ?_⟩⟩
  show List.take (xs.length * 6) (flat xs) = flat xs
  exact List.take_of_length_le (by rw [flat_len]; exact Nat.le_refl _)
theorem gbelow_none {w w' : World} (h : w.grownBy w' none) : Below w.heap.size w w' := (Below.refl w.heap.size w).grown h (Nat.le_refl _) (fun k hk => by cases hk)
theorem gmade {w : World} {base g n : Nat} {zs : List Value} (h : w.ownsRow base 28 6 (.slice (some ⟨g, 0, none⟩) n n) n zs) : ∃ cur : List Value, cur.length = n * 6 ∧ w.heap[g]? = some (.cells cur.toArray 28 (0, 0)) := by
  rcases h.2 with ⟨h1, _⟩ | ⟨g', cap, cur, h1, _, h3, _, _, h6, _⟩
  · cases h1
  · injection h1 with h1 _ h2
    injection h1 with h1
    injection h1 with h1
    subst h1 h2
    exact ⟨cur.toList, by simpa using h6, by simpa using h3⟩
theorem gsrc_cells {w : World} {a : Option Addr} {n : Nat} {xs : List Glyph} (h : Cells w a n xs) (h0 : 0 < n) : ∃ ad, a = some ad ∧ ∀ j v, (flat xs)[j]? = some v → w.cell? (ad.add j) = some v := by
  obtain rfl := h.1
  obtain ⟨b, off, rfl, hb⟩ := h.2.2 h0
  exact ⟨_, rfl, cells_src h⟩
theorem gcopy_any (a : Option Addr) (n c : Nat) (xs : List Glyph) (w : World) (hl : Cells w a n xs) (hm : n ≤ 1000000) : Calls Tryd.prog 15 #[.slice a n c] w (GPost xs w) := by
  have HL := Lib.hid hl
  have hlen := Lib.hid hl.1
  clear hl
  go_enter Tryd.func15, Tryd.ntmps15
  go_wp2_with (first
    | (at_make; refine wpList_make_full _ rfl _ _ 29 rfl w.heap.size 28 _ _ 6 Tryd.underlying29 ginfoE gzeroE (by kernel_rfl) .i64 .i64 _ _ n rfl rfl rfl rfl (by rw [gbytes]; omega) (by unfold maxLen; omega) (Nat.le_refl _) ?_; intro w1 o1 g1; have hM := gmade o1; obtain ⟨cur, hcur, hg⟩ := hM; have hS := Lib.hid (HL.out.below (gbelow_none g1)); have hB := gbelow_none g1)
    | (refine gcopy_list rfl _ _ 29 29 rfl 28 6 Tryd.underlying29 gsize _ _ _ _ _ _ rfl rfl w.heap.size 0 cur 28 hg (flat xs) n (Nat.min_self n).symm (by rw [flat_len, hlen.out]) (fun h0 => ⟨rfl, gsrc_cells hS.out h0⟩) (by rw [flat_len, hlen.out]; omega) (flat_one xs) w.heap.size w hB (Nat.le_refl _) ?_; intro w2 h2 b2 _)
    | go_in)
  go_ret
  exact ⟨_, rfl, gcopied hlen.out (Nat.le_refl _) hm hcur h2.out, b2⟩
theorem grep_at {n i : Nat} : (List.replicate n g0).getD i g0 = g0 := by
  rw [List.getD_eq_getElem?_getD, List.getElem?_replicate]
  split <;> rfl
theorem flat_zero (n : Nat) : (madeCells (Value.agg #[.int .i32 0, .int .u8 0, .int .u32 0, .int .u32 0, .int .u8 0, .int .u16 0]).cells (n * 6)).toList = flat (List.replicate n g0) := by
  refine List.ext_getElem? fun j => ?_
  rcases Nat.lt_or_ge j (n * 6) with hj | hj
  · obtain ⟨i, r, hr, rfl⟩ : ∃ i r, r < 6 ∧ j = i * 6 + r := ⟨j / 6, j % 6, Nat.mod_lt _ (by omega), by omega⟩
    rw [flat_at (by simp; omega) hr, grep_at]
    have h6 : (Value.agg #[.int .i32 0, .int .u8 0, .int .u32 0, .int .u32 0, .int .u8 0, .int .u16 0]).cells.size = 6 := rfl
    simp only [madeCells, Array.toList_map, List.getElem?_map, Array.toList_range, List.getElem?_range hj, Option.map_some, h6]
    rw [show (i * 6 + r) % 6 = r from by omega]
    match r, hr with
    | 0, _ => rfl
    | 1, _ => rfl
    | 2, _ => rfl
    | 3, _ => rfl
    | 4, _ => rfl
    | 5, _ => rfl
  · rw [List.getElem?_eq_none (by simpa [size_madeCells] using hj), List.getElem?_eq_none (by rw [flat_len, List.length_replicate]; exact hj)]
theorem gmake_row {w : World} {base n : Nat} {v : Value} (h : w.ownsRow base 28 6 v n (madeCells (Value.agg #[.int .i32 0, .int .u8 0, .int .u32 0, .int .u32 0, .int .u8 0, .int .u16 0]).cells (n * 6)).toList) : CRow w base v (List.replicate n g0) := by
  rw [flat_zero] at h
  unfold CRow
  rw [List.length_replicate]
  exact h
theorem gext {xs ys : List Glyph} (h : xs.length = ys.length) (k : ∀ j, j < xs.length → xs.getD j g0 = ys.getD j g0) : xs = ys := by
  refine List.ext_getElem h fun j h1 h2 => ?_
  have := k j h1
  rwa [List.getD_eq_getElem?_getD, List.getD_eq_getElem?_getD, List.getElem?_eq_getElem h1, List.getElem?_eq_getElem h2] at this
def GBPost (b : Bool) (w : World) (e : Ending) (w' : World) : Prop := e = .returned (.bool b) ∧ ∃ m, w.drewN m = w'
end Go.Proofs.YtlhcehealjdbdaaDoor
/- Are two rows of cells the same? -/
namespace Go.Proofs.YtlhcehealjdbdaaDoor
open Go.RowKit
attribute [local go_sem] alloc_drewN setCell_drewN
theorem glyph_eq (x y : Glyph) : (decide (x = y)) = (x.r == y.r && x.w == y.w && x.f == y.f && x.b == y.b && x.a == y.a && x.l == y.l) := by
  obtain ⟨x0, x1, x2, x3, x4, x5⟩ := x
  obtain ⟨y0, y1, y2, y3, y4, y5⟩ := y
  rw [Bool.eq_iff_iff]
  simp [and_assoc]
theorem gneq (x y : Glyph) (W : World) : (binOp .neq 28 (.agg #[.int .i32 x.r, .int .u8 x.w, .int .u32 x.f, .int .u32 x.b, .int .u8 x.a, .int .u16 x.l]) (.agg #[.int .i32 y.r, .int .u8 y.w, .int .u32 y.f, .int .u32 y.b, .int .u8 y.a, .int .u16 y.l])).run Tryd.prog W = .ok (.bool (!decide (x = y))) W := by
  rw [glyph_eq]
  go_simp
  by_cases h0 : x.r = y.r <;> by_cases h1 : x.w = y.w <;> by_cases h2 : x.f = y.f <;> by_cases h3 : x.b = y.b <;> by_cases h4 : x.a = y.a <;> by_cases h5 : x.l = y.l <;> simp [h0, h1, h2, h3, h4, h5]
theorem gneq_yes {x y : Glyph} (h : x ≠ y) (W : World) : (binOp .neq 28 (.agg #[.int .i32 x.r, .int .u8 x.w, .int .u32 x.f, .int .u32 x.b, .int .u8 x.a, .int .u16 x.l]) (.agg #[.int .i32 y.r, .int .u8 y.w, .int .u32 y.f, .int .u32 y.b, .int .u8 y.a, .int .u16 y.l])).run Tryd.prog W = .ok (.bool true) W := by rw [gneq, decide_eq_false h]; rfl
set_option maxHeartbeats 400000 in
theorem gsame_any (a b : Option Addr) (n c k d : Nat) (xs ys : List Glyph) (w : World) (hl : Cells w a n xs) (hk : Cells w b k ys) : Calls Tryd.prog 24 #[.slice a n c, .slice b k d] w (GBPost (decide (xs = ys)) w) := by
  have HL := Lib.hid hl
  have HK := Lib.hid hk
  have hn := hl.2.1
  have hkn := hk.2.1
  obtain rfl := hl.1
  obtain rfl := hk.1
  clear hl hk
  by_cases hlen : xs.length = ys.length
  · have hb : ((xs.length : Int) == (ys.length : Int)) = true := by rw [hlen]; exact beq_self_eq_true _
    have HLEN := Lib.hid hlen
    have hle : xs.length ≤ ys.length := by omega
    clear hlen
    go_enter Tryd.func24, Tryd.ntmps24
    go_wp2_with fail
    go_loopw [13] (fun i wr => ∃ (q m : Nat), q ≤ xs.length ∧ i = .int .i64 q ∧ wr = w.drewN m ∧ Hid (∀ j, j < q → xs.getD j g0 = ys.getD j g0)) (fun i _ => xs.length - (intOf i).toNat)
    case atStart => exact ⟨0, 0, by omega, rfl, rfl, fun j h => absurd h (by omega)⟩
    case round =>
      obtain ⟨q, m, hq, rfl, rfl, HA⟩ := hrel
      by_cases hqn : q < xs.length
      · obtain ⟨b1, o1, rfl, hb1, hc1⟩ := HL.out.2.2 (by omega)
        obtain ⟨b2, o2, rfl, hb2, hc2⟩ := HK.out.2.2 (by omega)
        have e1 := hc1 q hqn
        have e2 := hc2 q (by omega)
        have hq2 : q < ys.length := by omega
        obtain ⟨x, hxe⟩ : ∃ x, x = xs.getD q g0 := ⟨_, rfl⟩
        obtain ⟨y, hye⟩ : ∃ x, x = ys.getD q g0 := ⟨_, rfl⟩
        have HXE := Lib.hid hxe
        have HYE := Lib.hid hye
        rw [← hxe] at e1
        rw [← hye] at e2
        clear hc1 hc2 hxe hye
        obtain ⟨p0, p1, p2, p3, p4, p5⟩ := e1
        obtain ⟨r0, r1, r2, r3, r4, r5⟩ := e2
        by_cases hx : x = y
        · subst hx
          have hnew : Hid (∀ j, j < q + 1 → xs.getD j g0 = ys.getD j g0) := fun j hj => by
            rcases Nat.lt_or_ge j q with h1 | h1
            · exact HA.out j h1
            · obtain rfl : j = q := by omega
              rw [← HXE.out, ← HYE.out]
          go_wp2_with fail
          refine wp_region_bits [(0, true), (1, true), (2, true), (3, true), (4, true), (5, true), (6, true), (7, true), (8, true)] [] (by kernel_rfl) (by kernel_rfl) (fun c a d v w h => by cases d <;> exact h) ?_
          simp only [bits_, bitOf, List.getElem?_cons_zero, List.getElem?_cons_succ, List.contains_nil]
          repeat (first
            | (refine bits_take (v := ?_) (by rfl) ?_ ?_; rotate_left; (· intro w' hS; go_simp; (repeat (rw [hS.at_]; rotate_left; (· go_simp); go_simp)); (try (go_ints; try go_simp)); with_reducible rfl); (try simp only [Act.put, List.setIfInBounds_toArray, List.set_cons_zero, List.set_cons_succ]))
            | (refine bits_skip (by rfl) ?_; (try simp only [Act.put, List.setIfInBounds_toArray, List.set_cons_zero, List.set_cons_succ]))
            | (refine bits_pass (by rfl) ?_ ?_; (· repeat (first | (with_reducible (first | exact Keep.refl _ | refine Keep.left _ ?_ | refine Keep.drew ?_ | refine Keep.drewN ?_ _ | refine Keep.alloc ?_ _)) | (refine Keep.below ?_ (by with_reducible assumption)))); (try simp only [Act.put, List.setIfInBounds_toArray, List.set_cons_zero, List.set_cons_succ]))
            | (refine bits_eff (by rfl) (fun K hK => ?_); go_simp; (try go_ints); (first | go_at_K); refine hK _ _ ?_ ?_; (· repeat (first | (with_reducible (first | exact Keep.refl _ | refine Keep.left _ ?_ | refine Keep.drew ?_ | refine Keep.drewN ?_ _ | refine Keep.alloc ?_ _)) | (refine Keep.below ?_ (by with_reducible assumption)))); clear hK K; (try simp only [Act.put, List.setIfInBounds_toArray, List.set_cons_zero, List.set_cons_succ])))
          refine bits_nil ?_
          go_wp2_with fail
          go_roundw
          case rel => exact ⟨q + 1, m + 1, by omega, by go_num, by simp, hnew⟩
          case measure => simp [intOf]; omega
        · have hx' := gneq_yes hx
          have HD := Lib.hid (decide_eq_false (show ¬ xs = ys from fun h => hx (by rw [HXE.out, HYE.out, h])))
          clear hx
          go_wp2_with fail
          refine wp_region_bits [(0, true), (1, true), (2, true), (3, true), (4, true), (5, true), (6, true), (7, true), (8, true)] [] (by kernel_rfl) (by kernel_rfl) (fun c a d v w h => by cases d <;> exact h) ?_
          simp only [bits_, bitOf, List.getElem?_cons_zero, List.getElem?_cons_succ, List.contains_nil]
          repeat (first
            | (refine bits_take (v := ?_) (by rfl) ?_ ?_; rotate_left; (· intro w' hS; go_simp; (repeat (rw [hS.at_]; rotate_left; (· go_simp); go_simp)); (try (go_ints; try go_simp)); with_reducible rfl); (try simp only [Act.put, List.setIfInBounds_toArray, List.set_cons_zero, List.set_cons_succ]))
            | (refine bits_skip (by rfl) ?_; (try simp only [Act.put, List.setIfInBounds_toArray, List.set_cons_zero, List.set_cons_succ]))
            | (refine bits_pass (by rfl) ?_ ?_; (· repeat (first | (with_reducible (first | exact Keep.refl _ | refine Keep.left _ ?_ | refine Keep.drew ?_ | refine Keep.drewN ?_ _ | refine Keep.alloc ?_ _)) | (refine Keep.below ?_ (by with_reducible assumption)))); (try simp only [Act.put, List.setIfInBounds_toArray, List.set_cons_zero, List.set_cons_succ]))
            | (refine bits_eff (by rfl) (fun K hK => ?_); go_simp; (try go_ints); (first | go_at_K); refine hK _ _ ?_ ?_; (· repeat (first | (with_reducible (first | exact Keep.refl _ | refine Keep.left _ ?_ | refine Keep.drew ?_ | refine Keep.drewN ?_ _ | refine Keep.alloc ?_ _)) | (refine Keep.below ?_ (by with_reducible assumption)))); clear hK K; (try simp only [Act.put, List.setIfInBounds_toArray, List.set_cons_zero, List.set_cons_succ])))
          refine bits_nil ?_
          go_wp2_with fail
          go_ret
          exact ⟨by rw [HD.out]; rfl, m + 1, by simp⟩
      · obtain rfl : q = xs.length := by omega
        have HD := Lib.hid (decide_eq_true (gext HLEN.out HA.out))
        go_wp2_with fail
        go_ret
        exact ⟨by rw [HD.out]; rfl, m, rfl⟩
  · have hb : ((xs.length : Int) == (ys.length : Int)) = false := beq_eq_false_iff_ne.2 (fun h => hlen (by omega))
    have HD := Lib.hid (decide_eq_false (show ¬ xs = ys from fun h => hlen (by rw [h])))
    clear hlen
    go_enter Tryd.func24, Tryd.ntmps24
    go_wp2_with fail
    go_ret
    exact ⟨by rw [HD.out]; rfl, 0, rfl⟩
end Go.Proofs.YtlhcehealjdbdaaDoor
