/- The abstract interpreter: regions whose operations come in any order. Conditions: a check of the region's text. -/
import Derived.Test.YtdodfimekcoclaaAiCode3
set_option linter.unusedVariables false
set_option linter.unusedSimpArgs false
namespace Go.AI

/-! ### Versions only grow -/
def VM (H H' : Heap) : Prop := H.length ≤ H'.length ∧ ∀ b, b < H.length → ∀ l v cs, H'[b]? = some (.cells l v cs) → ∃ l0 v0 cs0, H[b]? = some (.cells l0 v0 cs0) ∧ v0 ≤ v ∧ (v0 = v → cs0 = cs)
def vld (H : Heap) : AV → Prop
  | .ms b ver _ _ _ => b < H.length ∧ ∀ l v cs, H[b]? = some (.cells l v cs) → ver ≤ v
  | .mp b ver _ => b < H.length ∧ ∀ l v cs, H[b]? = some (.cells l v cs) → ver ≤ v
  | _ => True
theorem VM.refl (H : Heap) : VM H H := ⟨Nat.le_refl _, fun b _ l v cs h => ⟨l, v, cs, h, Nat.le_refl _, fun _ => rfl⟩⟩
theorem markA_length : ∀ (bs : List Nat) (H : Heap), (markA H bs).length = H.length
  | [], H => rfl
  | b :: bs, H => by
    simp only [markA]
    rw [markA_length bs]
    split <;> simp
theorem VM.mark (H : Heap) (bs : List Nat) : VM H (markA H bs) := by
  refine ⟨by rw [markA_length]; exact Nat.le_refl _, fun b hb l v cs h => ?_⟩
  rw [markA_get] at h
  cases hx : H[b]? with
  | none => simp [hx] at h
  | some x =>
    simp only [hx, Option.map_some, Option.some.injEq] at h
    split at h
    · cases x with
      | cells l0 v0 cs0 => simp only [AB.freeze] at h; cases h; exact ⟨_, _, _, rfl, Nat.le_refl _, fun _ => rfl⟩
      | map es => simp [AB.freeze] at h
    · subst h; exact ⟨_, _, _, rfl, Nat.le_refl _, fun _ => rfl⟩
theorem vld.mono {H H' : Heap} (h : VM H H') {x : AV} (hx : vld H x) : vld H' x := by
  cases x <;> simp only [vld] at hx ⊢
  all_goals
    refine ⟨Nat.lt_of_lt_of_le hx.1 h.1, fun l v cs hc => ?_⟩
    obtain ⟨l0, v0, cs0, h1, h2, h3⟩ := h.2 _ hx.1 l v cs hc
    exact Nat.le_trans (hx.2 _ _ _ h1) h2
theorem refA_back {H H' : Heap} (h : VM H H') {x y : AV} (hx : vld H x) (hr : refA H' x = some y) : refA H x = some y := by
  cases x <;> simp only [refA] at hr ⊢ <;> try exact hr
  all_goals
    simp only [vld] at hx
    split at hr
    · rename_i l v cs hc
      split at hr
      · rename_i hv
        obtain ⟨l0, v0, cs0, h1, h2, h3⟩ := h.2 _ hx.1 _ _ _ hc
        have := hx.2 _ _ _ h1
        have : v0 = v := by omega
        rw [h1]
        simp only [this, hv, if_true]
        exact hr
      · cases hr
    · cases hr
theorem cellsAt_back {H H' : Heap} (h : VM H H') {x : AV} {q : List AV × Nat} (hx : vld H x) (hr : cellsAt H' x = some q) : cellsAt H x = some q := by
  cases x <;> simp only [cellsAt] at hr ⊢ <;> try exact hr
  rename_i b ver off
  simp only [vld] at hx
  split at hr
  · rename_i l v cs hc
    split at hr
    · rename_i hv
      obtain ⟨l0, v0, cs0, h1, h2, h3⟩ := h.2 _ hx.1 _ _ _ hc
      have := hx.2 _ _ _ h1
      have he : v0 = v := by omega
      rw [h1]
      simp only [he, hv, if_true]
      rw [h3 he]
      exact hr
    · cases hr
  · cases hr
theorem appendA_VM {P : Program} {t : TypeId} {s x r : AV} {H H' : Heap} (h : appendA P t s x H = some (r, H')) : VM H H' := by
  unfold appendA at h
  split at h
  · dsimp only at h
    obtain ⟨q1, hq1, h⟩ := obind_eq h
    obtain ⟨q2, hq2, h⟩ := obind_eq h
    obtain ⟨z, hz, h⟩ := obind_eq h
    split at h
    · split at h
      · rename_i b ver off n sz' _ _ _
        split at h
        · rename_i v cs hb
          split at h
          · cases h
            refine ⟨by simp, fun i hi l v' cs' hc => ?_⟩
            by_cases hib : i = b
            · subst hib
              rw [List.getElem?_set_self hi] at hc
              cases hc
              simp only [slc, hb] at hq1
              split at hq1
              · rename_i hv; exact ⟨_, _, _, hb, by omega, fun e => by omega⟩
              · cases hq1
            · rw [List.getElem?_set_ne (Ne.symm hib)] at hc
              exact ⟨_, _, _, hc, Nat.le_refl _, fun _ => rfl⟩
          · cases h
        · cases h
      · split at h
        · cases h
          refine ⟨by simp, fun i hi l v' cs' hc => ?_⟩
          rw [List.getElem?_append_left hi] at hc
          exact ⟨_, _, _, hc, Nat.le_refl _, fun _ => rfl⟩
        · cases h
      · cases h
    · cases h
  · cases h

/-! ### Two neighbours change places -/
def indep (sh : FuncId → Bool) (ops : Array Oper) (x y : Oper) : Bool :=
  x.apart ops y && (cls sh x.op == 0 || cls sh y.op == 0 || (decide (cls sh x.op ≤ 1) && decide (cls sh y.op ≤ 1)) || (isApp x.op && isSlice y.op))
section
variable {c : Cfg} {C : Cl} {ops : Array Oper}
theorem aev_upd {g : G} {d : Option Nat} {v : AV} {x : Operand} (h : ∀ i, d = some i → x ≠ .tmp i) : aev (upd g d v) x = aev g x := by
  cases d with
  | none => rfl
  | some i =>
    cases x with
    | tmp t =>
      have : t ≠ i := fun e => h i rfl (by rw [e])
      simp [aev, upd, this]
    | _ => rfl
theorem look_op {o : Oper} {d : Nat} (h : d ∉ o.looksAt ops) : ∀ x ∈ o.op.operands.toList, x ≠ .tmp d := by
  intro x hx e
  subst e
  apply h
  simp only [Oper.looksAt, List.mem_append, List.mem_filterMap]
  exact .inl ⟨_, hx, rfl⟩
theorem want_upd {o : Oper} {g : G} {d : Option Nat} {v : AV} (h : ∀ i, d = some i → i ∉ o.looksAt ops) : wantA ops o (upd g d v) = wantA ops o g := by
  cases d with
  | none => rfl
  | some i =>
    have := h i rfl
    unfold wantA
    cases hg : o.guard with
    | none => rfl
    | some q =>
      obtain ⟨j, want⟩ := q
      simp only
      cases hj : (ops[j]?).bind (·.dst) with
      | none => rfl
      | some e =>
        have hne : e ≠ i := by
          intro he
          subst he
          apply this
          simp [Oper.looksAt, hg, hj]
        simp [upd, hne]
/-- A step, as its value and what it does to the heap. -/
def valG (c : Cfg) (C : Cl) (ops : Array Oper) (o : Oper) (g : G) (H : Heap) : Option (AV × Heap) :=
  obind (wantA ops o g) fun t => if t then aop c C o.op g H else some (.tu [], H)
theorem step_val (o : Oper) (g : G) (H : Heap) : stepG c C ops o g H = obind (valG c C ops o g H) fun q => some (upd g o.dst q.1, q.2) := by
  unfold stepG valG
  cases wantA ops o g with
  | none => rfl
  | some t => cases t <;> rfl
theorem val_upd {o : Oper} {g : G} {d : Option Nat} {v : AV} (h : ∀ i, d = some i → i ∉ o.looksAt ops) (H : Heap) : valG c C ops o (upd g d v) H = valG c C ops o g H := by
  unfold valG
  rw [want_upd h]
  congr 1
  funext t
  cases t with
  | false => rfl
  | true =>
    simp only [if_true]
    exact aop_congr (fun x hx => aev_upd fun i hi => look_op (h i hi) x hx) H
theorem val0 {o : Oper} {g : G} {H H1 : Heap} {r : AV} (hc : cls c.shared o.op = 0) (h : valG c C ops o g H = some (r, H1)) : H1 = H ∧ ∀ H', valG c C ops o g H' = some (r, H') := by
  obtain ⟨t, ht, h⟩ := obind_eq h
  cases t with
  | false => cases h; exact ⟨rfl, fun H' => by simp [valG, ht, obind_some]⟩
  | true =>
    obtain ⟨q1, q2⟩ := cls0 hc (by simpa using h)
    exact ⟨q1, fun H' => by simp [valG, ht, obind_some, q2]⟩
theorem val1 {o : Oper} {g : G} {H H1 : Heap} {r : AV} (hc : cls c.shared o.op ≤ 1) (h : valG c C ops o g H = some (r, H1)) :
    ∃ bs, H1 = markA H bs ∧ ∀ H', fr H' = fr H → valG c C ops o g H' = some (r, markA H' bs) := by
  obtain ⟨t, ht, h⟩ := obind_eq h
  cases t with
  | false => cases h; exact ⟨[], rfl, fun H' _ => by simp [valG, ht, obind_some, markA]⟩
  | true =>
    obtain ⟨bs, q1, q2⟩ := cls1 hc (by simpa using h)
    exact ⟨bs, q1, fun H' hH => by simp [valG, ht, obind_some, q2 H' hH]⟩
theorem app_VM {o : Oper} {g : G} {H H1 : Heap} {r : AV} (ha : isApp o.op = true) (h : valG c C ops o g H = some (r, H1)) : VM H H1 := by
  obtain ⟨t, ht, h⟩ := obind_eq h
  cases t with
  | false => cases h; exact VM.refl _
  | true =>
    simp only [if_true] at h
    generalize ho : o.op = op at h ha
    cases op <;> first | (cases ha; done) | skip
    rename_i k
    simp only [aop, callOpA] at h
    obtain ⟨args, hargs, h⟩ := obind_eq h
    simp only [isApp] at ha
    split at h
    · rename_i b hk
      cases b <;> first | (simp [hk] at ha; done) | skip
      simp only [builtinA] at h
      split at h <;> first | contradiction | (cases h; done) | skip
      split at h
      · split at h
        · exact appendA_VM h
        · cases h
      · cases h
    · rename_i f hk; simp [hk] at ha
    · cases h
/-- The value that a slice operation looks at. -/
def vldO (o : Oper) (g : G) (H : Heap) : Prop := isSlice o.op = true → ∀ x ∈ o.op.operands.toList, ∀ a, aev g x = some a → vld H a
theorem slice_back {o : Oper} {g : G} {H H1 H2 : Heap} {r : AV} (hs : isSlice o.op = true) (hv : vldO o g H) (hm : VM H H1) (h : valG c C ops o g H1 = some (r, H2)) : H2 = H1 ∧ valG c C ops o g H = some (r, H) := by
  obtain ⟨t, ht, h⟩ := obind_eq h
  cases t with
  | false => cases h; exact ⟨rfl, by simp [valG, ht, obind_some]⟩
  | true =>
    simp only [if_true] at h
    have hv' := hv hs
    simp only [valG, ht, obind_some, if_true]
    generalize ho : o.op = op at h hs hv' ⊢
    cases op <;> first | (cases hs; done) | skip
    rename_i t x l hh m
    cases m with
    | some _ => cases h
    | none =>
      simp only [aop] at h ⊢
      obtain ⟨a, ha, h⟩ := obind_eq h
      obtain ⟨lo, hlo, h⟩ := obind_eq h
      obtain ⟨hi, hhi, h⟩ := obind_eq h
      obtain ⟨y, hy, h⟩ := obind_eq h
      obtain ⟨z, hz, h⟩ := obind_eq h
      cases h
      have hva := hv' x (by simp [Op.operands]) a ha
      have hya := refA_sound hy
      subst hya
      refine ⟨rfl, ?_⟩
      simp only [ha, obind_some, hlo, hhi, refA_back hm hva hy]
      have : sliceArrA c.P t y lo hi H = some r := by
        unfold sliceArrA at hz ⊢
        split at hz
        · obtain ⟨h0, hh0, hz⟩ := obind_eq hz
          obtain ⟨l0, hl0, hz⟩ := obind_eq hz
          obtain ⟨q, hq, hz⟩ := obind_eq hz
          simp only [hh0, hl0, obind_some, cellsAt_back hm hva hq]
          exact hz
        · exact hz
      rw [this]
      rfl
theorem swap {x y : Oper} {g g1 g2 : G} {H H1 H2 : Heap} (hi : indep c.shared ops x y = true) (hv : vldO y g H) (h1 : stepG c C ops x g H = some (g1, H1)) (h2 : stepG c C ops y g1 H1 = some (g2, H2)) :
    ∃ g1' H1', stepG c C ops y g H = some (g1', H1') ∧ stepG c C ops x g1' H1' = some (g2, H2) := by
  simp only [indep, Bool.and_eq_true] at hi
  obtain ⟨hap, hi⟩ := hi
  obtain ⟨a1, a2, a3⟩ := Oper.apart_spec hap
  rw [step_val] at h1 h2
  obtain ⟨⟨r1, H1'⟩, v1, h1⟩ := obind_eq h1
  cases h1
  obtain ⟨⟨r2, H2'⟩, v2, h2⟩ := obind_eq h2
  cases h2
  rw [val_upd a1] at v2
  have key : ∀ {Hm : Heap}, valG c C ops y g H = some (r2, Hm) → valG c C ops x g Hm = some (r1, H2') →
      ∃ g1' H1', stepG c C ops y g H = some (g1', H1') ∧ stepG c C ops x g1' H1' = some (upd (upd g x.dst r1) y.dst r2, H2') := by
    intro Hm k1 k2
    refine ⟨upd g y.dst r2, Hm, by rw [step_val, k1]; rfl, ?_⟩
    rw [step_val, val_upd a3, k2]
    simp only [obind_some]
    rw [upd_comm g r1 r2 a2]
  simp only [Bool.or_eq_true, beq_iff_eq, Bool.and_eq_true, decide_eq_true_eq] at hi
  rcases hi with ((h0 | h0) | ⟨h0, h0'⟩) | ⟨h0, h0'⟩
  · obtain ⟨e1, e2⟩ := val0 h0 v1
    subst e1
    exact key v2 (e2 _)
  · obtain ⟨e1, e2⟩ := val0 h0 v2
    subst e1
    exact key (e2 H) v1
  · obtain ⟨bs1, e1, f1⟩ := val1 h0 v1
    obtain ⟨bs2, e2, f2⟩ := val1 h0' v2
    subst e1
    refine key (f2 H (markA_fr H bs1).symm) ?_
    rw [f1 _ (markA_fr H bs2), e2, markA_comm]
  · obtain ⟨e1, e2⟩ := slice_back h0' hv (app_VM h0 v1) v2
    subst e1
    exact key e2 v1
/-- What lies before an operation that it does not wait for. -/
theorem vldO_step {x y : Oper} {g g1 : G} {H H1 : Heap} (hi : indep c.shared ops x y = true) (hv : vldO y g H) (h1 : stepG c C ops x g H = some (g1, H1)) : vldO y g1 H1 := by
  intro hs z hz a ha
  simp only [indep, Bool.and_eq_true] at hi
  obtain ⟨hap, hi⟩ := hi
  obtain ⟨a1, a2, a3⟩ := Oper.apart_spec hap
  rw [step_val] at h1
  obtain ⟨⟨r1, H1'⟩, v1, h1⟩ := obind_eq h1
  cases h1
  rw [aev_upd fun i hi' => look_op (a1 i hi') z hz] at ha
  have := hv hs z hz a ha
  refine this.mono ?_
  have hy : cls c.shared y.op = 1 := by
    generalize y.op = op at hs
    cases op <;> first | (cases hs; done) | rfl
  simp only [Bool.or_eq_true, beq_iff_eq, Bool.and_eq_true, decide_eq_true_eq] at hi
  rcases hi with ((h0 | h0) | ⟨h0, h0'⟩) | ⟨h0, h0'⟩
  · rw [(val0 h0 v1).1]; exact VM.refl _
  · omega
  · obtain ⟨bs1, e1, f1⟩ := val1 h0 v1
    rw [e1]; exact VM.mark _ _
  · exact app_VM h0 v1
theorem bubble {y : Oper} {post : List Oper} : ∀ {pre : List Oper} {g g' : G} {H H' : Heap}, (∀ x ∈ pre, indep c.shared ops x y = true) → vldO y g H → stepsG c C ops (pre ++ y :: post) g H = some (g', H') →
    ∃ g1 H1, stepG c C ops y g H = some (g1, H1) ∧ stepsG c C ops (pre ++ post) g1 H1 = some (g', H')
  | [], g, g', H, H', hi, hv, h => by
    obtain ⟨s, h1, h⟩ := obind_eq h
    exact ⟨s.1, s.2, h1, h⟩
  | x :: pre, g, g', H, H', hi, hv, h => by
    obtain ⟨s, h1, h⟩ := obind_eq h
    obtain ⟨ga, Ha⟩ := s
    have hxy := hi x (by simp)
    obtain ⟨gb, Hb, k1, k2⟩ := bubble (pre := pre) (fun z hz => hi z (by simp [hz])) (vldO_step hxy hv h1) h
    obtain ⟨gc, Hc, k3, k4⟩ := swap hxy hv h1 k1
    refine ⟨gc, Hc, k3, ?_⟩
    simp only [List.cons_append, stepsG, k4, obind_some]
    exact k2
end

/-! ### The check of a region's text, and what it gives -/
def reach (ops : Array Oper) : Nat → Nat → Nat → Bool
  | 0, _, _ => false
  | n + 1, j, x => match ops[j]? with
    | some o => o.after.toList.any fun e => Region.binds .any e && (e.on == x || reach ops n e.on x)
    | none => false
def okAny (sh : FuncId → Bool) (ops : Array Oper) : Bool :=
  (List.range ops.size).all fun j => match ops[j]? with
    | some o => (o.after.toList.all fun e => !Region.binds .any e || decide (e.on < j)) && (List.range j).all fun i => match ops[i]? with
      | some x => indep sh ops x o || reach ops 3 j i
      | none => false
    | none => false
def Shut (ops : Array Oper) (listed : Array Bool) : Prop := ∀ (j : Nat) (o : Oper), listed[j]? = some true → ops[j]? = some o → ∀ e ∈ o.after.toList, Region.binds .any e = true → listed[e.on]? = some true
theorem reach_listed {ops : Array Oper} {listed : Array Bool} (hs : Shut ops listed) : ∀ (n j x : Nat), (∀ o : Oper, ops[j]? = some o → ∀ e ∈ o.after.toList, Region.binds .any e = true → listed[e.on]? = some true) → reach ops n j x = true → listed[x]? = some true
  | 0, j, x, _, h => by cases h
  | n + 1, j, x, hj, h => by
    unfold reach at h
    split at h
    · rename_i o ho
      simp only [List.any_eq_true, Bool.and_eq_true, Bool.or_eq_true, beq_iff_eq] at h
      obtain ⟨e, he, hb, h | h⟩ := h
      · rw [← h]; exact hj o ho e he hb
      · exact reach_listed hs n e.on x (fun o' ho' e' he' hb' => hs e.on o' (hj o ho e he hb) ho' e' he' hb') h
    · cases h
end Go.AI
