/- The abstract interpreter: which operations of a region may change places. No conditions. -/
import Derived.Test.YtdodfimekcoclaaAiCode2
set_option linter.unusedVariables false
set_option linter.unusedSimpArgs false
namespace Go.AI

/-! ### Heaps that differ only in what may still be written -/
def fr (H : Heap) : Heap := H.map AB.freeze
theorem freeze_freeze (x : AB) : x.freeze.freeze = x.freeze := by cases x <;> rfl
theorem fr_get (H : Heap) (b : Nat) : (fr H)[b]? = (H[b]?).map AB.freeze := by simp [fr]
theorem markA_get : ∀ (bs : List Nat) (H : Heap) (i : Nat), (markA H bs)[i]? = (H[i]?).map fun x => if bs.contains i then x.freeze else x
  | [], H, i => by simp [markA]
  | b :: bs, H, i => by
    simp only [markA]
    rw [markA_get bs]
    cases hb : H[b]? with
    | none =>
      simp only
      cases hi : H[i]? with
      | none => rfl
      | some x =>
        have : i ≠ b := by intro e; rw [e, hb] at hi; cases hi
        simp [this]
    | some y =>
      simp only
      have hbl : b < H.length := (List.getElem?_eq_some_iff.1 hb).1
      by_cases hib : i = b
      · subst hib
        rw [List.getElem?_set_self hbl, hb]
        simp [freeze_freeze]
      · rw [List.getElem?_set_ne (Ne.symm hib)]
        simp [hib]
theorem markA_fr (H : Heap) (bs : List Nat) : fr (markA H bs) = fr H := by
  apply List.ext_getElem?
  intro i
  rw [fr_get, fr_get, markA_get]
  cases H[i]? with
  | none => rfl
  | some x =>
    simp only [Option.map_some]
    split
    · rw [freeze_freeze]
    · rfl
theorem markA_comm (H : Heap) (as bs : List Nat) : markA (markA H as) bs = markA (markA H bs) as := by
  apply List.ext_getElem?
  intro i
  simp only [markA_get]
  cases H[i]? with
  | none => rfl
  | some x =>
    simp only [Option.map_some]
    by_cases h1 : i ∈ as <;> by_cases h2 : i ∈ bs <;> simp [h1, h2, freeze_freeze]
theorem slc_fr (H : Heap) (x : AV) : slc (fr H) x = slc H x := by
  cases x <;> simp only [slc]
  rename_i b ver off n sz
  rw [fr_get]
  cases H[b]? with
  | none => rfl
  | some y => cases y <;> rfl
theorem refA_fr (H : Heap) (x : AV) : refA (fr H) x = refA H x := by
  cases x <;> simp only [refA]
  · rename_i b ver off n sz
    rw [fr_get]
    cases H[b]? with
    | none => rfl
    | some y => cases y <;> rfl
  · rename_i b ver off
    rw [fr_get]
    cases H[b]? with
    | none => rfl
    | some y => cases y <;> rfl
theorem cellsAt_fr (H : Heap) (x : AV) : cellsAt (fr H) x = cellsAt H x := by
  cases x <;> simp only [cellsAt]
  rename_i b ver off
  rw [fr_get]
  cases H[b]? with
  | none => rfl
  | some y => cases y <;> rfl
theorem mapC_congr {f f' : AV → Option (AV × List Nat)} (h : ∀ x, f x = f' x) : ∀ l, mapC f l = mapC f' l
  | [] => rfl
  | x :: r => by simp only [mapC, h x, mapC_congr h r]
theorem closeA_fr (H : Heap) : ∀ k x, closeA k (fr H) x = closeA k H x
  | 0, x => rfl
  | k + 1, x => by
    have ih := mapC_congr (closeA_fr H k)
    cases x <;> simp only [closeA, ih]
    · rename_i b ver off n sz
      rw [fr_get]
      cases H[b]? with
      | none => rfl
      | some y => cases y <;> rfl
    · rename_i b ver off
      rw [fr_get]
      cases H[b]? with
      | none => rfl
      | some y => cases y <;> rfl
theorem lenA_fr (P : Program) (t : TypeId) (H : Heap) (x : AV) : lenA P t x (fr H) = lenA P t x H := by
  unfold lenA
  split <;> try rfl
  rename_i b _
  rw [fr_get]
  cases H[b]? with
  | none => rfl
  | some y => cases y <;> rfl
theorem lookupA_fr (P : Program) (t : TypeId) (H : Heap) (m k : AV) (ok : Bool) : lookupA P t m k ok (fr H) = lookupA P t m k ok H := by
  unfold lookupA
  split <;> try rfl
  rename_i b _
  rw [fr_get]
  cases H[b]? with
  | none => rfl
  | some y => cases y <;> rfl
theorem sliceArrA_fr (P : Program) (t : TypeId) (H : Heap) (x : AV) (lo hi : Option AV) : sliceArrA P t x lo hi (fr H) = sliceArrA P t x lo hi H := by
  simp only [sliceArrA, cellsAt_fr]

/-! ### Kinds of operations -/
def cls (sh : FuncId → Bool) : Op → Nat
  | .move _ | .pick .. | .build .. | .buildSlice .. | .binOp .. | .unOp .. | .convert .. | .makeFunc .. | .field .. | .index .. | .extract .. => 0
  | .load .. | .nilCheck .. | .slice .. | .fieldAddr .. | .indexAddr .. | .lookup .. => 1
  | .call k => match k.callee with
    | .builtin .len => 1
    | .builtin .max => 0
    | .builtin .min => 0
    | .value (.func f) => if sh f then 2 else 1
    | _ => 2
  | _ => 2
def isApp : Op → Bool
  | .call k => match k.callee with | .builtin .append => true | _ => false
  | _ => false
def isSlice : Op → Bool
  | .slice .. => true
  | _ => false
section
variable {c : Cfg} {C : Cl} {g : G} {H H1 : Heap} {r : AV}
theorem cls0 {o : Op} (hc : cls c.shared o = 0) (h : aop c C o g H = some (r, H1)) : H1 = H ∧ ∀ H', aop c C o g H' = some (r, H') := by
  cases o <;> first | (exfalso; simp [cls] at hc; done) | skip
  case call k =>
    simp only [aop, callOpA] at h ⊢
    obtain ⟨args, ha, h⟩ := obind_eq h
    simp only [ha, obind_some]
    split at h
    · rename_i b hk
      simp only [cls, hk] at hc
      try simp only [hk]
      cases b <;> first | (exfalso; simp at hc; done) | skip
      all_goals
        simp only [builtinA] at h ⊢
        split at h <;> first | contradiction | (cases h; done) | skip
        obtain ⟨z, hz, h⟩ := obind_eq h
        cases h
        exact ⟨rfl, fun H' => by simp [hz, obind_some]⟩
    · rename_i f hk
      exfalso
      simp only [cls, hk] at hc
      cases f <;> simp at hc
      split at hc <;> simp at hc
    · cases h
  case makeFunc f fs cs =>
    simp only [aop] at h ⊢
    split at h
    · obtain ⟨z, hz, h⟩ := obind_eq h
      cases h
      rename_i h1
      exact ⟨rfl, fun H' => by simp [h1, hz, obind_some]⟩
    · cases h
  all_goals
    simp only [aop] at h ⊢
    repeat (obtain ⟨_, h1, h⟩ := obind_eq h; simp only [h1, obind_some])
    cases h
    exact ⟨rfl, fun _ => rfl⟩

theorem refA_of {H H' : Heap} (h : fr H' = fr H) (x : AV) : refA H' x = refA H x := by rw [← refA_fr H', h, refA_fr]
theorem cellsAt_of {H H' : Heap} (h : fr H' = fr H) (x : AV) : cellsAt H' x = cellsAt H x := by rw [← cellsAt_fr H', h, cellsAt_fr]
theorem closeA_of {H H' : Heap} (h : fr H' = fr H) (k : Nat) (x : AV) : closeA k H' x = closeA k H x := by rw [← closeA_fr H', h, closeA_fr]
theorem lenA_of {H H' : Heap} (h : fr H' = fr H) (P : Program) (t : TypeId) (x : AV) : lenA P t x H' = lenA P t x H := by rw [← lenA_fr P t H', h, lenA_fr]
theorem lookupA_of {H H' : Heap} (h : fr H' = fr H) (P : Program) (t : TypeId) (m k : AV) (ok : Bool) : lookupA P t m k ok H' = lookupA P t m k ok H := by rw [← lookupA_fr P t H', h, lookupA_fr]
theorem sliceArrA_of {H H' : Heap} (h : fr H' = fr H) (P : Program) (t : TypeId) (x : AV) (lo hi : Option AV) : sliceArrA P t x lo hi H' = sliceArrA P t x lo hi H := by rw [← sliceArrA_fr P t H', h, sliceArrA_fr]
theorem callA_cls1 {f : FuncId} {args : List AV} (hs : c.shared f = false) (h : callA c C f args H = some (r, H1)) :
    ∃ bs, H1 = markA H bs ∧ ∀ H', fr H' = fr H → callA c C f args H' = some (r, markA H' bs) := by
  have hcl : ∀ H', fr H' = fr H → closeL H' args = closeL H args := fun H' hH => mapC_congr (fun x => closeA_of hH depthA x) args
  unfold callA at h
  simp only [hs, Bool.false_eq_true, if_false] at h
  obtain ⟨⟨args', bs⟩, hc, h⟩ := obind_eq h
  obtain ⟨⟨r0, H0⟩, hr, h⟩ := obind_eq h
  cases bs with
  | nil =>
    cases h
    refine ⟨[], rfl, fun H' hH => ?_⟩
    simp [callA, hs, hcl H' hH, hc, obind_some, hr, markA]
  | cons b bs =>
    simp only at h
    split at h
    · rename_i hsc
      cases h
      refine ⟨[], rfl, fun H' hH => ?_⟩
      simp [callA, hs, hcl H' hH, hc, obind_some, hr, markA, hsc]
    · rename_i hsc
      cases h
      refine ⟨b :: bs, rfl, fun H' hH => ?_⟩
      simp [callA, hs, hcl H' hH, hc, obind_some, hr, hsc]
theorem cls1 {o : Op} (hc : cls c.shared o ≤ 1) (h : aop c C o g H = some (r, H1)) : ∃ bs, H1 = markA H bs ∧ ∀ H', fr H' = fr H → aop c C o g H' = some (r, markA H' bs) := by
  rcases Nat.lt_or_ge (cls c.shared o) 1 with h0 | h1
  · obtain ⟨q1, q2⟩ := cls0 (by omega) h
    exact ⟨[], q1, fun H' _ => q2 H'⟩
  have hc1 : cls c.shared o = 1 := by omega
  clear hc h1
  cases o <;> first | (exfalso; simp [cls] at hc1; done) | skip
  case load t x =>
    simp only [aop] at h ⊢
    obtain ⟨a, ha, h⟩ := obind_eq h
    obtain ⟨y, hy, h⟩ := obind_eq h
    cases h
    refine ⟨[], rfl, fun H' hH => ?_⟩
    have : loadA c.P t a H' = loadA c.P t a H := by unfold loadA; rw [cellsAt_of hH a]
    simp [ha, obind_some, this, hy, markA]
  case nilCheck x =>
    simp only [aop] at h ⊢
    obtain ⟨a, ha, h⟩ := obind_eq h
    obtain ⟨y, hy, h⟩ := obind_eq h
    obtain ⟨z, hz, h⟩ := obind_eq h
    cases h
    refine ⟨[], rfl, fun H' hH => ?_⟩
    simp [ha, obind_some, refA_of hH a, hy, hz, markA]
  case fieldAddr t x f =>
    simp only [aop] at h ⊢
    obtain ⟨a, ha, h⟩ := obind_eq h
    obtain ⟨y, hy, h⟩ := obind_eq h
    obtain ⟨z, hz, h⟩ := obind_eq h
    cases h
    refine ⟨[], rfl, fun H' hH => ?_⟩
    simp [ha, obind_some, refA_of hH a, hy, hz, markA]
  case indexAddr t x i =>
    simp only [aop] at h ⊢
    obtain ⟨a, ha, h⟩ := obind_eq h
    obtain ⟨y, hy, h⟩ := obind_eq h
    obtain ⟨b, hb, h⟩ := obind_eq h
    obtain ⟨z, hz, h⟩ := obind_eq h
    cases h
    refine ⟨[], rfl, fun H' hH => ?_⟩
    simp [ha, obind_some, refA_of hH a, hy, hb, hz, markA]
  case slice t x l hh m =>
    cases m with
    | some _ => cases h
    | none =>
      simp only [aop] at h ⊢
      obtain ⟨a, ha, h⟩ := obind_eq h
      obtain ⟨lo, hlo, h⟩ := obind_eq h
      obtain ⟨hi, hhi, h⟩ := obind_eq h
      obtain ⟨y, hy, h⟩ := obind_eq h
      obtain ⟨z, hz, h⟩ := obind_eq h
      cases h
      refine ⟨[], rfl, fun H' hH => ?_⟩
      simp [ha, obind_some, refA_of hH a, hy, hlo, hhi, sliceArrA_of hH, hz, markA]
  case lookup t m k ok =>
    simp only [aop] at h ⊢
    obtain ⟨a, ha, h⟩ := obind_eq h
    obtain ⟨b, hb, h⟩ := obind_eq h
    obtain ⟨z, hz, h⟩ := obind_eq h
    cases h
    refine ⟨[], rfl, fun H' hH => ?_⟩
    simp [ha, obind_some, hb, lookupA_of hH, hz, markA]
  case call k =>
    simp only [aop, callOpA] at h ⊢
    obtain ⟨args, ha, h⟩ := obind_eq h
    simp only [ha, obind_some]
    split at h
    · rename_i b hk
      simp only [cls, hk] at hc1
      try simp only [hk]
      cases b <;> first | (exfalso; simp at hc1; done) | skip
      simp only [builtinA] at h ⊢
      split at h <;> first | contradiction | (cases h; done) | skip
      rename_i x h0
      obtain ⟨y, hy, h⟩ := obind_eq h
      obtain ⟨z, hz, h⟩ := obind_eq h
      cases h
      refine ⟨[], rfl, fun H' hH => ?_⟩
      simp [h0, obind_some, refA_of hH, hy, lenA_of hH, hz, markA]
    · rename_i f hk
      simp only [cls, hk] at hc1
      try simp only [hk]
      cases f <;> first | (exfalso; simp at hc1; done) | skip
      rename_i f
      simp only [aev, obind_some] at h ⊢
      have hs : c.shared f = false := by
        cases hsf : c.shared f with
        | false => rfl
        | true => simp [hsf] at hc1
      exact callA_cls1 hs h
    · cases h

/-! ### What an operation reads -/
theorem aevs_congr {g g' : G} : ∀ {l : List Operand}, (∀ x ∈ l, aev g x = aev g' x) → aevs g l = aevs g' l
  | [], _ => rfl
  | x :: r, h => by simp only [aevs, h x (by simp), aevs_congr (l := r) fun y hy => h y (by simp [hy])]
theorem evP_congr {g g' : G} : ∀ {l : List (Nat × Operand)}, (∀ x ∈ l.map (·.2), aev g x = aev g' x) → evP g l = evP g' l
  | [], _ => rfl
  | (i, x) :: r, h => by simp only [evP, h x (by simp), evP_congr (l := r) fun y hy => h y (by simp at hy ⊢; exact .inr hy)]
theorem aevO_congr {g g' : G} {o : Option Operand} (h : ∀ x, o = some x → aev g x = aev g' x) : aevO g o = aevO g' o := by
  cases o with
  | none => rfl
  | some x => simp only [aevO, h x rfl]
theorem aop_congr {g g' : G} {o : Op} (h : ∀ x ∈ o.operands.toList, aev g x = aev g' x) (H : Heap) : aop c C o g H = aop c C o g' H := by
  cases o
  case call k =>
    simp only [aop, callOpA]
    have h1 : aevs g k.args.toList = aevs g' k.args.toList := aevs_congr fun x hx => h x (by
      simp only [Op.operands, Call.operands]
      cases k.callee <;> simp_all)
    rw [h1]
    congr 1
    funext args
    cases hk : k.callee with
    | builtin b => rfl
    | value f =>
      simp only
      rw [h f (by simp [Op.operands, Call.operands, hk])]
    | invoke => rfl
  case makeFunc f fs cs =>
    simp only [aop]
    rw [aevs_congr (g := g) (g' := g') (l := cs.toList) fun x hx => h x (by simp [Op.operands] at hx ⊢; exact .inr hx)]
  case build t ps =>
    simp only [aop]
    rw [evP_congr (g := g) (g' := g') (l := ps.toList) fun x hx => h x (by simpa [Op.operands] using hx)]
  case buildSlice t n ps =>
    simp only [aop]
    rw [evP_congr (g := g) (g' := g') (l := ps.toList) fun x hx => h x (by simpa [Op.operands] using hx)]
  case slice t x l hh m =>
    cases m with
    | some _ => rfl
    | none =>
      simp only [aop]
      rw [h x (by simp [Op.operands]), aevO_congr (g := g) (g' := g') (o := l) fun y hy => h y (by simp [Op.operands, hy]), aevO_congr (g := g) (g' := g') (o := hh) fun y hy => h y (by simp [Op.operands, hy])]
  all_goals first
    | rfl
    | (simp only [Op.operands, List.mem_cons, List.not_mem_nil, or_false, forall_eq_or_imp, forall_eq] at h
       simp only [aop, h])
end
end Go.AI
