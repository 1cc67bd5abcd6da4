/- The abstract interpreter: its operations on values are those of the model. No conditions. -/
import Derived.Test.YtdodfimekcoclaaAiRel
import Derived.WalkKit
set_option linter.unusedVariables false
namespace Go.AI
section
variable {κ : Kap}
theorem VR_v {x : Value} (h : x.oneCell' = true) : VR κ (.v x) x := by simp only [VR]; exact ⟨trivial, h⟩
theorem VR.v_eq {x u : Value} (h : VR κ (.v x) u) : u = x := by simp only [VR] at h; exact h.1
theorem VR_nil : VR κ (.sl true 0 []) (.slice none 0 0) := by
  simp only [VR]
  exact ⟨none, 0, rfl, Nat.le_refl _, fun _ => rfl, fun h => absurd h (by omega), rfl, [], .nil, rfl⟩
theorem VR_cell {x : Value} (h : x.oneCell' = true) : VR κ (ofCell x) x := by
  unfold ofCell
  split
  · exact VR_nil
  · exact VR_v h
theorem VRs_cells : ∀ {xs : List Value}, xs.all Value.oneCell' = true → VRs κ (xs.map ofCell) xs
  | [], _ => .nil
  | x :: r, h => by
    simp only [List.all_cons, Bool.and_eq_true] at h
    exact .cons (VR_cell h.1) (VRs_cells h.2)
theorem VR_val {x : Value} (h : cstB x = true) : VR κ (ofVal x) x := by
  unfold ofVal
  split
  · simp only [VR, cstB] at h ⊢
    exact ⟨_, by simp, VRs_cells h, fun y hy => List.all_eq_true.1 h y hy⟩
  · simp only [VR, cstB] at h ⊢
    exact ⟨_, by simp, VRs_cells h⟩
  · exact VR_cell (by cases x <;> first | rfl | simp_all)
theorem aev_sound {g : G} {a : Act} (hE : EnvR κ g a) {o : Operand} {x : AV} (h : aev g o = some x) : VR κ x (a.eval o) := by
  cases o with
  | tmp t => exact hE t x h
  | const y =>
    simp only [aev] at h
    split at h
    · rename_i hc
      cases h
      exact VR_val hc
    · cases h
  | global _ => cases h
  | func f =>
    simp only [aev] at h
    cases h
    simp only [VR, Act.eval]
    exact ⟨[], rfl, .nil⟩
theorem aevs_sound {g : G} {a : Act} (hE : EnvR κ g a) : ∀ {os : List Operand} {xs : List AV}, aevs g os = some xs → VRs κ xs (os.map a.eval)
  | [], xs, h => by cases h; exact .nil
  | o :: r, xs, h => by
    obtain ⟨x, hx, h⟩ := obind_eq h
    obtain ⟨ys, hy, h⟩ := obind_eq h
    cases h
    exact .cons (aev_sound hE hx) (aevs_sound hE hy)
theorem VR.ofInt {x : AV} {k : IntKind} {n : Int} {u : Value} (h : VR κ (.v (.int k n)) u) : u = .int k n := h.v_eq

/-! ### Operations on numbers, strings, bools -/
section
variable {P : Program} {w : World}
theorem run_shift_eq {op : BinOp} {k k' : IntKind} {a b : Int} {r : Value} (h : ashift op k a b = some r) : (Op.shift op k a k' b).run P w = .ok r w ∧ r.oneCell' = true := by
  unfold ashift at h
  unfold Op.shift
  split at h
  · cases h
  · rename_i hb
    rw [if_neg hb]
    cases op <;> first | (cases h; exact ⟨rfl, rfl⟩) | cases h
theorem run_int_eq {op : BinOp} {k : IntKind} {a b : Int} {r : Value} (h : aint op k a b = some r) (t : TypeId) : (binOp op t (.int k a) (.int k b)).run P w = .ok r w ∧ r.oneCell' = true := by
  cases op <;> simp only [aint, acmp, obind] at h <;> first
    | (cases h; exact ⟨by simp [binOp, Op.intArith, Op.intBits, Op.intCmp], rfl⟩)
    | (split at h
       · cases h
       · rename_i hb
         cases h
         exact ⟨by simp [binOp, Op.intDiv, hb], rfl⟩)
    | cases h
theorem run_str_eq {op : BinOp} {a b : ByteArray} {r : Value} (h : astr op a b = some r) (t : TypeId) : (binOp op t (.string a) (.string b)).run P w = .ok r w ∧ r.oneCell' = true := by
  cases op <;> simp only [astr] at h <;> first
    | (cases h; exact ⟨by simp [binOp, Op.stringOp], rfl⟩)
    | (split at h
       · rename_i hb
         cases h
         refine ⟨?_, rfl⟩
         have h1 : ¬ ((a.size + b.size : Nat) : Int) > IntKind.i64.max := by
           have : IntKind.i64.max = 9223372036854775807 := by decide
           omega
         simp only [binOp, Op.stringOp, if_neg h1]
         rfl
       · cases h)
    | cases h

/-! ### Equality of plain cells -/
theorem run_cellEq {kd : TypeDesc} {x y : AV} {b : Bool} (h : cellEq kd x y = some b) {e : TypeId} (he : basicT P e = some kd) {u v : Value} (hu : VR κ x u) (hv : VR κ y v) (d : Nat) :
    (Op.equalIn (d + 1) e u v).run P w = .ok b w := by
  unfold basicT at he
  unfold cellEq at h
  split at he
  · rename_i k0 hq
    cases he
    split at h
    · rename_i k a k' c _
      cases hu.v_eq; cases hv.v_eq
      by_cases hk : k = k'
      · subst hk
        rw [if_pos rfl] at h
        cases h
        simp [Op.equalIn, run_underlying hq]
      · rw [if_neg hk] at h; cases h
    · rename_i e1; cases e1
    · rename_i e1; cases e1
    · cases h
  · rename_i hq
    cases he
    split at h
    · rename_i e1; cases e1
    · cases hu.v_eq; cases hv.v_eq
      cases h
      simp [Op.equalIn, run_underlying hq]
    · rename_i e1; cases e1
    · cases h
  · rename_i hq
    cases he
    split at h
    · rename_i e1; cases e1
    · rename_i e1; cases e1
    · cases hu.v_eq; cases hv.v_eq
      cases h
      simp [Op.equalIn, run_underlying hq]
    · cases h
  · cases he
theorem basicT_part {e : TypeId} {kd : TypeDesc} (he : basicT P e = some kd) (cs : Array Value) (i : Nat) (u : Value) (h : cs[i]? = some u) : (part e cs i).run P w = .ok u w := by
  unfold basicT at he
  split at he <;> first
    | (cases he; done)
    | (rename_i hq; simp [part, isAgg, run_underlying hq, h])
/-- All cells of an array, one by one. -/
theorem run_eqArr {e : TypeId} {kd : TypeDesc} (he : basicT P e = some kd) (hs : P.cellsOf e = 1) (d : Nat) (xs ys : Array Value) : ∀ (n k : Nat) (as bs : List AV) (b : Bool),
    cellsEq (List.replicate n kd) as bs = some b → VRs κ as (xs.toList.drop k) → VRs κ bs (ys.toList.drop k) → ∀ (w : World),
    ((forIn (m := Sem) (List.range' k n) ((none, ()) : Option Bool × Unit) fun i r => do
        let a ← part e xs (i * 1)
        let c ← part e ys (i * 1)
        let t ← Op.equalIn (d + 1) e a c
        if (!t) = true then pure (.done (some false, ())) else pure (.yield (none, ()))).run P w = .ok (if b then (none, ()) else (some false, ())) w) := by
  intro n
  induction n with
  | zero =>
    intro k as bs b h h1 h2 w
    cases as <;> cases bs <;> simp [cellsEq] at h
    subst h
    simp
  | succ n ih =>
    intro k as bs b h h1 h2 w
    cases as with
    | nil => simp [List.replicate_succ, cellsEq] at h
    | cons x r =>
      cases bs with
      | nil => simp [List.replicate_succ, cellsEq] at h
      | cons y s =>
        simp only [List.replicate_succ, cellsEq] at h
        obtain ⟨b1, hb1, h⟩ := obind_eq h
        obtain ⟨b2, hb2, h⟩ := obind_eq h
        cases h
        obtain ⟨u, us, e1, hu, hr⟩ := h1.uncons
        obtain ⟨v, vs, e2, hv, hs'⟩ := h2.uncons
        have hxk : xs[k]? = some u := by
          have := congrArg (·[0]?) e1
          simpa using this
        have hyk : ys[k]? = some v := by
          have := congrArg (·[0]?) e2
          simpa using this
        have hd1 : xs.toList.drop (k + 1) = us := by rw [← List.tail_drop, e1]; rfl
        have hd2 : ys.toList.drop (k + 1) = vs := by rw [← List.tail_drop, e2]; rfl
        rw [List.range'_succ, List.forIn_cons]
        simp only [Sem.run_bind, Nat.mul_one, basicT_part he xs k u hxk, basicT_part he ys k v hyk, Result.andThen_ok, run_cellEq hb1 he hu hv d]
        cases b1
        · simp
        · simp only [Bool.not_true, Bool.false_eq_true, if_false, Sem.run_pure, Result.andThen_ok, Bool.true_and]
          have := ih (k + 1) r s b2 hb2 (by rw [hd1]; exact hr) (by rw [hd2]; exact hs') w
          simpa using this
end
end
end Go.AI
