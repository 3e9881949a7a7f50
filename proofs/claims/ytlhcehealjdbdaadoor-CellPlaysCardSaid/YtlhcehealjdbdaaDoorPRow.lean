/- Rows of pieces, as they lie in memory: seven values each. -/
import Derived.Test.YtlhcehealjdbdaaDoorMended2
import Derived.Test.YtlhcehealjdbdaaDoorGStore
namespace Go.Proofs.YtlhcehealjdbdaaDoor
open Go.RowKit
set_option linter.unusedSimpArgs false
set_option linter.unusedVariables false
def Pc.cells (p : Pc) : List Value := [.int .i32 p.c.r, .int .u8 p.c.w, .int .u32 p.c.f, .int .u32 p.c.b, .int .u8 p.c.a, .int .u16 p.c.l, .int .i64 p.s]
def pflat : List Pc → List Value
  | [] => []
  | c :: cs => c.cells ++ pflat cs
theorem pflat_len (xs : List Pc) : (pflat xs).length = xs.length * 7 := by
  induction xs with
  | nil => rfl
  | cons c cs ih => simp [pflat, Pc.cells, ih]; omega
theorem pflat_app (xs ys : List Pc) : pflat (xs ++ ys) = pflat xs ++ pflat ys := by
  induction xs with
  | nil => rfl
  | cons c cs ih => simp [pflat, ih]
theorem pflat_take : ∀ (xs : List Pc) (k : Nat), pflat (xs.take k) = (pflat xs).take (k * 7)
  | [], k => by simp [pflat]
  | c :: cs, 0 => by simp [pflat]
  | c :: cs, k + 1 => by
    have h6 : c.cells.length = 7 := rfl
    simp only [pflat, List.take_succ_cons]
    have e : c.cells.take ((k + 1) * 7) = c.cells := List.take_of_length_le (by rw [h6]; omega)
    rw [List.take_append, h6, e, pflat_take cs k, show (k + 1) * 7 - 7 = k * 7 from by omega]
theorem pflat_at : ∀ {xs : List Pc} {i j : Nat}, i < xs.length → j < 7 → (pflat xs)[i * 7 + j]? = (pat xs i).cells[j]?
  | [], _, _, h, _ => absurd h (by simp)
  | c :: cs, 0, j, _, hj => by
    unfold pat
    simp only [pflat, Nat.zero_mul, Nat.zero_add, List.getD_cons_zero]
    rw [List.getElem?_append_left (by simpa [Pc.cells] using hj)]
  | c :: cs, i + 1, j, h, hj => by
    have h6 : c.cells.length = 7 := rfl
    have ih := pflat_at (xs := cs) (i := i) (j := j) (by simpa using h) hj
    unfold pat at ih ⊢
    simp only [pflat, List.getD_cons_succ]
    rw [List.getElem?_append_right (by omega), h6, show (i + 1) * 7 + j - 7 = i * 7 + j from by omega]
    exact ih
theorem pflat_one (xs : List Pc) : ∀ u ∈ pflat xs, u.oneCell' = true := by
  induction xs with
  | nil => simp [pflat]
  | cons c cs ih =>
    intro u hu
    rcases List.mem_append.1 hu with h | h
    · simp only [Pc.cells, List.mem_cons, List.not_mem_nil, or_false] at h
      rcases h with rfl | rfl | rfl | rfl | rfl | rfl | rfl <;> rfl
    · exact ih u h
theorem pflat_set : ∀ {xs : List Pc} {i j : Nat} {c : Pc} {u : Value}, i < xs.length → j < 7 → (pat xs i).cells.set j u = c.cells → (pflat xs).set (i * 7 + j) u = pflat (xs.set i c)
  | [], _, _, _, _, h, _, _ => absurd h (by simp)
  | d :: cs, 0, j, c, u, _, hj, hc => by
    unfold pat at hc
    simp only [List.getD_cons_zero] at hc
    simp only [pflat, Nat.zero_mul, Nat.zero_add, List.set_cons_zero]
    rw [List.set_append_left _ _ (by simpa [Pc.cells] using hj), hc]
  | d :: cs, i + 1, j, c, u, h, hj, hc => by
    have h6 : d.cells.length = 7 := rfl
    unfold pat at hc
    simp only [List.getD_cons_succ] at hc
    simp only [pflat, List.set_cons_succ]
    rw [List.set_append_right _ _ (by omega), h6, show (i + 1) * 7 + j - 7 = i * 7 + j from by omega, pflat_set (by simpa using h) hj hc]
/-- The piece lies there. -/
def PAt (w : World) (b o : Nat) (p : Pc) : Prop := GAt w b o p.c ∧ w.cell? ⟨b, o + 6, none⟩ = some (.int .i64 p.s)
theorem PAt.same {w w' : World} {b o : Nat} {p : Pc} (h : PAt w b o p) (k : ∀ q : Addr, q.block = b → w'.cell? q = w.cell? q) : PAt w' b o p := ⟨h.1.same k, (k _ rfl).trans h.2⟩
/-- A row of pieces of the caller's own. -/
def PRow (w : World) (base : Nat) (v : Value) (xs : List Pc) : Prop := w.ownsRow base 95 7 v xs.length (pflat xs)
section
variable {w w' : World} {base : Nat} {v : Value} {xs : List Pc}
theorem PRow.up (h : PRow w base v xs) {b : Nat} (hb : b ≤ base) : PRow w b v xs := by
  refine ⟨h.1, ?_⟩
  rcases h.2 with hn | ⟨g, cap, cur, h1, h2, h3⟩
  · exact .inl hn
  · exact .inr ⟨g, cap, cur, h1, Nat.le_trans hb h2, h3⟩
theorem PRow.below (h : PRow w base v xs) (hb : Below w.heap.size w w') : PRow w' base v xs := by
  refine ⟨h.1, ?_⟩
  rcases h.2 with hn | ⟨g, cap, cur, h1, h2, h3, h4⟩
  · exact .inl hn
  · exact .inr ⟨g, cap, cur, h1, h2, (hb.block g (Array.getElem?_eq_some_iff.1 h3).1).trans h3, h4⟩
/-- The row lies below B: what is Below B leaves it. -/
theorem PRow.keep {B g n c : Nat} (h : PRow w base (.slice (some ⟨g, 0, none⟩) n c) xs) (hb : Below B w w') (hg : g < B) : PRow w' base (.slice (some ⟨g, 0, none⟩) n c) xs := by
  refine ⟨h.1, ?_⟩
  rcases h.2 with hn | ⟨g', cap, cur, h1, h2, h3, h4⟩
  · exact .inl hn
  · injection h1 with h1 h5 h6
    injection h1 with h1
    injection h1 with h1
    subst h1
    exact .inr ⟨g, cap, cur, by rw [h5, h6], h2, (hb.block g hg).trans h3, h4⟩
theorem PRow.alloc (h : PRow w base v xs) (o : Obj) : PRow (w.alloc o) base v xs := World.ownsRow.alloc h o
theorem prow_len {a : Option Addr} {n c : Nat} (h : PRow w base (.slice a n c) xs) : xs.length = n := by
  rcases h.2 with ⟨h1, h2⟩ | ⟨g, cap, cur, h1, _⟩
  · injection h1 with _ h1 _
    omega
  · injection h1 with _ h1 _
    exact h1.symm
theorem prow_addr {a : Option Addr} {n c : Nat} (h : PRow w base (.slice a n c) xs) (h0 : 0 < n) : ∃ g, a = some ⟨g, 0, none⟩ := by
  rcases h.2 with ⟨h1, h2⟩ | ⟨g, cap, cur, h1, _⟩
  · injection h1 with _ h1 _
    omega
  · injection h1 with h1 _ _
    exact ⟨g, h1⟩
theorem prow_form (h : PRow w base v xs) : ∃ a c, v = .slice a xs.length c := by
  rcases h.2 with ⟨h1, h2⟩ | ⟨g, cap, cur, h1, _⟩
  · exact ⟨none, 0, by rw [h1, h2]⟩
  · exact ⟨_, cap, h1⟩
theorem prow_own {g n c : Nat} (h : PRow w base (.slice (some ⟨g, 0, none⟩) n c) xs) : ∃ cur, Own w g 95 cur ∧ base ≤ g ∧ n ≤ c := by
  rcases h.2 with ⟨h1, _⟩ | ⟨g', cap, cur, h1, h2, h3, h4, _⟩
  · cases h1
  · injection h1 with h0 h1 h8
    injection h0 with h0
    injection h0 with h0
    subst h0
    exact ⟨cur, h3, h2, by omega⟩
theorem prow_at {g n c k : Nat} (h : PRow w base (.slice (some ⟨g, 0, none⟩) n c) xs) (hk : k < n) : PAt w g (k * 7) (pat xs k) ∧ base ≤ g ∧ (∀ j, w.frozen? ⟨g, j, none⟩ = false) ∧ g < w.heap.size := by
  have hz := prow_len h
  have key : ∀ j u, j < 7 → (pat xs k).cells[j]? = some u → w.cell? ⟨g, k * 7 + j, none⟩ = some u := fun j u hj hu => by
    have := World.ownsRow.cells h (g := g) rfl (k * 7 + j) u ((pflat_at (by omega) hj).trans hu)
    rwa [gplain_add] at this
  obtain ⟨cur, ho, hb, _⟩ := prow_own h
  exact ⟨⟨⟨key 0 _ (by omega) rfl, key 1 _ (by omega) rfl, key 2 _ (by omega) rfl, key 3 _ (by omega) rfl, key 4 _ (by omega) rfl, key 5 _ (by omega) rfl⟩, key 6 _ (by omega) rfl⟩, hb, fun j => Own.frozen ho j, ho.lt⟩
theorem prow_put {g n c k j : Nat} {d : Pc} {u : Value} (h : PRow w base (.slice (some ⟨g, 0, none⟩) n c) xs) (hk : k < n) (hj : j < 7) (hd : (pat xs k).cells.set j u = d.cells) :
    PRow (w.setCell ⟨g, k * 7 + j, none⟩ u) base (.slice (some ⟨g, 0, none⟩) n c) (xs.set k d) := by
  have hz := prow_len h
  rcases h.2 with ⟨h1, _⟩ | ⟨g', cap, cur, h1, h2, h3, h4, h5, h6, h7⟩
  · cases h1
  · injection h1 with h0 h1 h8
    injection h0 with h0
    injection h0 with h0
    subst h0 h8
    have ho : Own w g 95 cur := h3
    refine ⟨by rw [pflat_len], .inr ⟨g, c, _, by rw [List.length_set, hz], h2, ho.store (k * 7 + j) u, by rw [List.length_set]; omega, h5, by simp; omega, ?_⟩⟩
    rw [List.length_set, hz]
    rw [hz] at h7
    rw [Array.toList_setIfInBounds, gtake_set, h7]
    exact pflat_set (by omega) hj hd
theorem pset_getD {k : Nat} {d : Pc} (h : k < xs.length) : pat (xs.set k d) k = d := by rw [pset h, if_pos rfl]
/-- A whole piece is stored. -/
theorem prow_set {g n c k : Nat} (d : Pc) (h : PRow w base (.slice (some ⟨g, 0, none⟩) n c) xs) (hk : k < n) :
    PRow ((((((((w.setCell ⟨g, k * 7, none⟩ (.int .i32 d.c.r)).setCell ⟨g, k * 7 + 1, none⟩ (.int .u8 d.c.w)).setCell ⟨g, k * 7 + 2, none⟩ (.int .u32 d.c.f)).setCell ⟨g, k * 7 + 3, none⟩ (.int .u32 d.c.b)).setCell ⟨g, k * 7 + 4, none⟩ (.int .u8 d.c.a)).setCell ⟨g, k * 7 + 5, none⟩ (.int .u16 d.c.l)).setCell ⟨g, k * 7 + 6, none⟩ (.int .i64 d.s))) base (.slice (some ⟨g, 0, none⟩) n c) (xs.set k d) := by
  have hz := prow_len h
  obtain ⟨e, he⟩ : ∃ e, pat xs k = e := ⟨_, rfl⟩
  have h0 := prow_put (j := 0) (d := ⟨⟨d.c.r, e.c.w, e.c.f, e.c.b, e.c.a, e.c.l⟩, e.s⟩) (u := .int .i32 d.c.r) h hk (by omega) (by rw [he]; rfl)
  have h1 := prow_put (j := 1) (d := ⟨⟨d.c.r, d.c.w, e.c.f, e.c.b, e.c.a, e.c.l⟩, e.s⟩) (u := .int .u8 d.c.w) h0 hk (by omega) (by rw [pset_getD (by omega)]; rfl)
  rw [List.set_set] at h1
  have h2 := prow_put (j := 2) (d := ⟨⟨d.c.r, d.c.w, d.c.f, e.c.b, e.c.a, e.c.l⟩, e.s⟩) (u := .int .u32 d.c.f) h1 hk (by omega) (by rw [pset_getD (by omega)]; rfl)
  rw [List.set_set] at h2
  have h3 := prow_put (j := 3) (d := ⟨⟨d.c.r, d.c.w, d.c.f, d.c.b, e.c.a, e.c.l⟩, e.s⟩) (u := .int .u32 d.c.b) h2 hk (by omega) (by rw [pset_getD (by omega)]; rfl)
  rw [List.set_set] at h3
  have h4 := prow_put (j := 4) (d := ⟨⟨d.c.r, d.c.w, d.c.f, d.c.b, d.c.a, e.c.l⟩, e.s⟩) (u := .int .u8 d.c.a) h3 hk (by omega) (by rw [pset_getD (by omega)]; rfl)
  rw [List.set_set] at h4
  have h5 := prow_put (j := 5) (d := ⟨⟨d.c.r, d.c.w, d.c.f, d.c.b, d.c.a, d.c.l⟩, e.s⟩) (u := .int .u16 d.c.l) h4 hk (by omega) (by rw [pset_getD (by omega)]; rfl)
  rw [List.set_set] at h5
  have h6 := prow_put (j := 6) (d := d) (u := .int .i64 d.s) h5 hk (by omega) (by rw [pset_getD (by omega)]; rfl)
  rw [List.set_set] at h6
  exact h6
end
theorem pinfoE : Tryd.prog.info? 95 = some Tryd.t95 := by kernel_rfl
theorem pzeroE : Tryd.t95.zero = some (.agg #[.int .i32 0, .int .u8 0, .int .u32 0, .int .u32 0, .int .u8 0, .int .u16 0, .int .i64 0]) := by kernel_rfl
theorem pbytes : Tryd.t95.bytes = 32 := by kernel_rfl
theorem psize : (Tryd.prog.info? 95).map (·.size) = some 7 := by kernel_rfl
section
variable {o : Oper} {a : Act} {w : World} {Q : Exit → Act → World → Prop}
theorem pstore_run {base g n c k : Nat} {xs : List Pc} (d : Pc) (hr : PRow w base (.slice (some ⟨g, 0, none⟩) n c) xs) (hk : k < n) :
    ∃ w', (Instr.storeAt 95 (.pointer (some ⟨g, k * 7, none⟩)) (.agg #[.int .i32 d.c.r, .int .u8 d.c.w, .int .u32 d.c.f, .int .u32 d.c.b, .int .u8 d.c.a, .int .u16 d.c.l, .int .i64 d.s])).run Tryd.prog w = .ok () w' ∧
      PRow w' base (.slice (some ⟨g, 0, none⟩) n c) (xs.set k d) ∧ w.grownBy w' (some g) := by
  obtain ⟨⟨⟨p0, p1, p2, p3, p4, p5⟩, p6⟩, hbg, hfz, _⟩ := prow_at hr hk
  have f0 := hfz (k * 7)
  have f1 := hfz (k * 7 + 1)
  have f2 := hfz (k * 7 + 2)
  have f3 := hfz (k * 7 + 3)
  have f4 := hfz (k * 7 + 4)
  have f5 := hfz (k * 7 + 5)
  have f6 := hfz (k * 7 + 6)
  refine ⟨_, ?_, prow_set d hr hk, turn_store (turn_store (turn_store (turn_store (turn_store (turn_store (turn_store (turn_refl w _) _ _) _ _) _ _) _ _) _ _) _ _) _ _⟩
  go_simp
theorem pstore_op {K : Act → World → Prop} (p v : Operand) (ho : o.op = .store 95 p v) {base g n c k : Nat} {xs : List Pc} {d : Pc} (hp : a.eval p = .pointer (some ⟨g, k * 7, none⟩)) (hv : a.eval v = .agg #[.int .i32 d.c.r, .int .u8 d.c.w, .int .u32 d.c.f, .int .u32 d.c.b, .int .u8 d.c.a, .int .u16 d.c.l, .int .i64 d.s])
    (hr : PRow w base (.slice (some ⟨g, 0, none⟩) n c) xs) (hk : k < n) (h : ∀ w', PRow w' base (.slice (some ⟨g, 0, none⟩) n c) (xs.set k d) → w.grownBy w' (some g) → K (a.put o.dst undef) w') : Oper.wp Tryd.prog o a w K Q := by
  obtain ⟨w', hrun, h1, h2⟩ := pstore_run d hr hk
  unfold Oper.wp execOp
  simp only [ho, hp, hv, Sem.run_bind, hrun, Result.andThen_ok]
  simp only [Sem.run_pure, Oper.upon]
  exact h w' h1 h2
theorem pstore_list {ops : Array Oper} {rest : List Oper} (hgd : o.guard = none) (p v : Operand) (ho : o.op = .store 95 p v) {base g n c k : Nat} {xs : List Pc} {d : Pc} (hp : a.eval p = .pointer (some ⟨g, k * 7, none⟩)) (hv : a.eval v = .agg #[.int .i32 d.c.r, .int .u8 d.c.w, .int .u32 d.c.f, .int .u32 d.c.b, .int .u8 d.c.a, .int .u16 d.c.l, .int .i64 d.s])
    (hr : PRow w base (.slice (some ⟨g, 0, none⟩) n c) xs) (hk : k < n) (h : ∀ w', PRow w' base (.slice (some ⟨g, 0, none⟩) n c) (xs.set k d) → w.grownBy w' (some g) → wpList Tryd.prog ops Q rest (a.put o.dst undef) w') : wpList Tryd.prog ops Q (o :: rest) a w := by
  refine wpList_plain hgd fun K hK => pstore_op p v ho hp hv hr hk fun w' h1 h2 => hK _ _ ?_
  exact h w' h1 h2
/-- 'append(ps, qs...)', ps the caller's own. -/
theorem papp {ops : Array Oper} {rest : List Oper} (hgd : o.guard = none) (s x : Operand) (ho : o.op = .call { callee := .builtin .append, args := #[s, x], argTypes := #[92, 92] })
    {lo : Nat} {v : Value} {ps : List Pc} (hs : a.eval s = v) (hown : PRow w lo v ps) {ad : Addr} {m c : Nat} {qs : List Pc} (hx : a.eval x = .slice (some ad) m c) (hm : qs.length = m) (hq : ∀ j u, (pflat qs)[j]? = some u → w.cell? (ad.add j) = some u) (hl : ps.length + qs.length ≤ 1000000) (hlo : lo ≤ w.heap.size)
    (h : ∀ v' w', PRow w' lo v' (ps ++ qs) → Below lo w w' → wpList Tryd.prog ops Q rest (a.put o.dst v') w') : wpList Tryd.prog ops Q (o :: rest) a w := by
  subst hm
  refine wpList_append_own w hgd s x 92 ho lo 95 _ _ 7 32 Tryd.underlying92 pinfoE pzeroE (by kernel_rfl) (by kernel_rfl) rfl (by decide) v ps.length (pflat ps) hs hown ad qs.length c (pflat qs) hx (pflat_len qs)
    hq (pflat_one qs) (by unfold maxLen; omega) (by omega) hlo (fun v' w' r1 r2 _ => h v' w' ?_ ?_)
  · show w'.ownsRow lo 95 7 v' (ps ++ qs).length (pflat (ps ++ qs))
    rw [List.length_append, pflat_app]
    exact r1
  · exact (Below.refl lo w).grown r2 hlo (fun k hk => (World.ownsRow.lt hown k hk).1)
end
theorem pempty_row (w : World) : PRow (w.alloc (.cells #[] 95)) w.heap.size (.slice (some ⟨w.heap.size, 0, none⟩) 0 0) [] :=
  World.ownsRow_made (base := w.heap.size) (e := 95) (size := 7) w #[] 0 (Nat.le_refl _) (by decide) rfl
/-- The first m pieces of a row, as a source. -/
theorem prow_src {w : World} {base g n c m : Nat} {ps : List Pc} (h : PRow w base (.slice (some ⟨g, 0, none⟩) n c) ps) : ∀ j u, (pflat (ps.take m))[j]? = some u → w.cell? ((⟨g, 0, none⟩ : Addr).add j) = some u := fun j u hj => by
  rw [pflat_take, List.getElem?_take] at hj
  split at hj
  · have := World.ownsRow.cells h (g := g) rfl j u hj
    exact this
  · cases hj
/-- One piece just built, as a source. -/
theorem one_src {w : World} {g : Nat} {p : Pc} (h : Own w g 95 p.cells.toArray) : ∀ j u, (pflat [p])[j]? = some u → w.cell? ((⟨g, 0, none⟩ : Addr).add j) = some u := fun j u hj => by
  rw [gplain_add, h.cell j]
  simpa [pflat] using hj
end Go.Proofs.YtlhcehealjdbdaaDoor
