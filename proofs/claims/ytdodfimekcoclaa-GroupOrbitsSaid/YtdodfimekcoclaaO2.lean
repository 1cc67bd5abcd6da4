/- Texts of one proof, joined: F24, F33, F17, F18, F20, PPerm, F19, F11, F11b, F40, F12, F15, F16, PPerm2, PReach, F50, F43, POrb, F29. Conditions: none of its own; each part names what it shows. -/
import Derived.KernelRfl
import Derived.Test.YtdodfimekcoclaaO1
/- ref.Valid. -/
set_option linter.unusedVariables false
set_option linter.unusedSimpArgs false
set_option linter.unusedSectionVars false
namespace Go.Proofs
open Go.AI
set_option maxRecDepth 20000
theorem seenL_ext (n : Nat) : ∀ (l : List Int) (bs bs' : List Bool), n ≤ bs.length → n ≤ bs'.length → (∀ j, j < n → bs.getD j false = bs'.getD j false) → seenL n l bs = seenL n l bs'
  | [], _, _, _, _, _ => rfl
  | x :: r, bs, bs', h1, h2, h => by
    simp only [seenL]
    by_cases hx : x < 0
    · simp [hx]
    by_cases hn : (n : Int) ≤ x
    · simp [hx, hn]
    have hj : x.toNat < n := by omega
    rw [h _ hj]
    simp only [hx, hn, if_false]
    rw [seenL_ext n r (bs.set x.toNat true) (bs'.set x.toNat true) (by simpa using h1) (by simpa using h2)]
    intro j hjn
    by_cases he : x.toNat = j
    · subst he
      simp [List.getD_eq_getElem?_getD, List.getElem?_set_self (show x.toNat < bs.length by omega), List.getElem?_set_self (show x.toNat < bs'.length by omega)]
    · have := h j hjn
      simp only [List.getD_eq_getElem?_getD] at this ⊢
      rw [List.getElem?_set_ne he, List.getElem?_set_ne he, this]
theorem validL_eq {A : List Int} (h : A.length ≤ 6) : seenL A.length A (List.replicate A.length false) = seenL A.length A [false, false, false, false, false, false] := by
  refine seenL_ext A.length A _ _ (by simp) (by simpa using h) fun j hj => ?_
  have e : ([false, false, false, false, false, false] : List Bool) = List.replicate 6 false := rfl
  rw [e, List.getD_eq_getElem?_getD, List.getD_eq_getElem?_getD, List.getElem?_replicate, List.getElem?_replicate]
  split <;> split <;> rfl
section
variable {a : Code} (h : loopOf 0 Try.f24 = some a) {A : List Int} {bs : List Bool} (hb : bs.length = A.length) {i : Nat} (hA : A.length ≤ 6)
include h hb hA
def st24 (A : List Int) (i : Nat) (bs : List Bool) : St := ([(0, Is A), (3, .ms 0 0 0 A.length 1), (4, I i)], [.cells true 0 (Bs bs)])
theorem r24a (hi : i < A.length) {x : Int} (hx : A[i]? = some x) (h1 : x < 0) : roundA Try.cfg 24 iter (call Try.cfg) 0 a (st24 A i bs) = some (.ret, [(2, B false)], [.cells true 0 (Bs bs)]) := by
  cases h
  simp -implicitDefEqProofs (maxSteps := 1000000) (disch := omega) only [push_cast, ↓dstAt_zero, ↓dstAt_succ, ↓arun_skip, ↓arun_region, ↓arun_seq, ↓arun_cond, ↓arun_block, ↓arun_loop, ↓arun_exit, ↓arun_ret, aops_nil, aops_cons, aops_cons_guard, ↓putA_some, ↓putA_none, ↓aop_move, ↓aop_assign, ↓aop_pick, ↓aop_alloc, ↓aop_box, ↓aop_build, ↓aop_buildSlice, ↓aop_load, ↓aop_store, ↓aop_nilCheck, ↓aop_binOp, ↓aop_unOp, ↓aop_convert, ↓aop_makeSlice, ↓aop_fieldAddr, ↓aop_field, ↓aop_indexAddr, ↓aop_index, ↓aop_lookup, ↓aop_mapUpdate, ↓aop_insert, ↓aop_extract, ↓aop_callB, ↓aop_callF, ↓aop_callT, ↓aop_makeFunc, ↓aop_makeMap, ↓aop_slice, ↓aevs_nil, ↓aevs_cons, ↓evP_nil, ↓evP_cons, ↓aevO_none, ↓aevO_some, ↓reduceIte, reduceCtorEq, Nat.reduceEqDiff, Nat.reduceAdd, Nat.reduceLT, Nat.reduceSub, Nat.reduceMul, Nat.reduceLeDiff, if_true, if_false, if_pos, if_neg, st24, hx]
theorem r24b (hi : i < A.length) {x : Int} (hx : A[i]? = some x) (h1 : 0 ≤ x) (h2 : A.length ≤ x) : roundA Try.cfg 24 iter (call Try.cfg) 0 a (st24 A i bs) = some (.ret, [(2, B false)], [.cells true 0 (Bs bs)]) := by
  cases h
  simp -implicitDefEqProofs (maxSteps := 1000000) (disch := omega) only [push_cast, ↓dstAt_zero, ↓dstAt_succ, ↓arun_skip, ↓arun_region, ↓arun_seq, ↓arun_cond, ↓arun_block, ↓arun_loop, ↓arun_exit, ↓arun_ret, aops_nil, aops_cons, aops_cons_guard, ↓putA_some, ↓putA_none, ↓aop_move, ↓aop_assign, ↓aop_pick, ↓aop_alloc, ↓aop_box, ↓aop_build, ↓aop_buildSlice, ↓aop_load, ↓aop_store, ↓aop_nilCheck, ↓aop_binOp, ↓aop_unOp, ↓aop_convert, ↓aop_makeSlice, ↓aop_fieldAddr, ↓aop_field, ↓aop_indexAddr, ↓aop_index, ↓aop_lookup, ↓aop_mapUpdate, ↓aop_insert, ↓aop_extract, ↓aop_callB, ↓aop_callF, ↓aop_callT, ↓aop_makeFunc, ↓aop_makeMap, ↓aop_slice, ↓aevs_nil, ↓aevs_cons, ↓evP_nil, ↓evP_cons, ↓aevO_none, ↓aevO_some, ↓reduceIte, reduceCtorEq, Nat.reduceEqDiff, Nat.reduceAdd, Nat.reduceLT, Nat.reduceSub, Nat.reduceMul, Nat.reduceLeDiff, if_true, if_false, if_pos, if_neg, st24, hx]
theorem r24c (hi : i < A.length) {x : Int} (hx : A[i]? = some x) (h1 : 0 ≤ x) (h2 : x < A.length) (h3 : bs[x.toNat]? = some true) : roundA Try.cfg 24 iter (call Try.cfg) 0 a (st24 A i bs) = some (.ret, [(2, B false)], [.cells true 0 (Bs bs)]) := by
  cases h
  simp -implicitDefEqProofs (maxSteps := 1000000) (disch := omega) only [push_cast, ↓dstAt_zero, ↓dstAt_succ, ↓arun_skip, ↓arun_region, ↓arun_seq, ↓arun_cond, ↓arun_block, ↓arun_loop, ↓arun_exit, ↓arun_ret, aops_nil, aops_cons, aops_cons_guard, ↓putA_some, ↓putA_none, ↓aop_move, ↓aop_assign, ↓aop_pick, ↓aop_alloc, ↓aop_box, ↓aop_build, ↓aop_buildSlice, ↓aop_load, ↓aop_store, ↓aop_nilCheck, ↓aop_binOp, ↓aop_unOp, ↓aop_convert, ↓aop_makeSlice, ↓aop_fieldAddr, ↓aop_field, ↓aop_indexAddr, ↓aop_index, ↓aop_lookup, ↓aop_mapUpdate, ↓aop_insert, ↓aop_extract, ↓aop_callB, ↓aop_callF, ↓aop_callT, ↓aop_makeFunc, ↓aop_makeMap, ↓aop_slice, ↓aevs_nil, ↓aevs_cons, ↓evP_nil, ↓evP_cons, ↓aevO_none, ↓aevO_some, ↓reduceIte, reduceCtorEq, Nat.reduceEqDiff, Nat.reduceAdd, Nat.reduceLT, Nat.reduceSub, Nat.reduceMul, Nat.reduceLeDiff, if_true, if_false, if_pos, if_neg, st24, hx, h3]
theorem r24d (hi : i < A.length) {x : Int} (hx : A[i]? = some x) (h1 : 0 ≤ x) (h2 : x < A.length) (h3 : bs[x.toNat]? = some false) : roundA Try.cfg 24 iter (call Try.cfg) 0 a (st24 A i bs) = some (.normal, st24 A (i + 1) (bs.set x.toNat true)) := by
  cases h
  simp -implicitDefEqProofs (maxSteps := 1000000) (disch := omega) only [push_cast, ↓dstAt_zero, ↓dstAt_succ, ↓arun_skip, ↓arun_region, ↓arun_seq, ↓arun_cond, ↓arun_block, ↓arun_loop, ↓arun_exit, ↓arun_ret, aops_nil, aops_cons, aops_cons_guard, ↓putA_some, ↓putA_none, ↓aop_move, ↓aop_assign, ↓aop_pick, ↓aop_alloc, ↓aop_box, ↓aop_build, ↓aop_buildSlice, ↓aop_load, ↓aop_store, ↓aop_nilCheck, ↓aop_binOp, ↓aop_unOp, ↓aop_convert, ↓aop_makeSlice, ↓aop_fieldAddr, ↓aop_field, ↓aop_indexAddr, ↓aop_index, ↓aop_lookup, ↓aop_mapUpdate, ↓aop_insert, ↓aop_extract, ↓aop_callB, ↓aop_callF, ↓aop_callT, ↓aop_makeFunc, ↓aop_makeMap, ↓aop_slice, ↓aevs_nil, ↓aevs_cons, ↓evP_nil, ↓evP_cons, ↓aevO_none, ↓aevO_some, ↓reduceIte, reduceCtorEq, Nat.reduceEqDiff, Nat.reduceAdd, Nat.reduceLT, Nat.reduceSub, Nat.reduceMul, Nat.reduceLeDiff, if_true, if_false, if_pos, if_neg, st24, hx, h3]
  try rfl
theorem r24e (hi : i = A.length) : roundA Try.cfg 24 iter (call Try.cfg) 0 a (st24 A i bs) = some (.exit 0, [], [.cells true 0 (Bs bs)]) := by
  cases h
  simp -implicitDefEqProofs (maxSteps := 1000000) (disch := omega) only [push_cast, ↓dstAt_zero, ↓dstAt_succ, ↓arun_skip, ↓arun_region, ↓arun_seq, ↓arun_cond, ↓arun_block, ↓arun_loop, ↓arun_exit, ↓arun_ret, aops_nil, aops_cons, aops_cons_guard, ↓putA_some, ↓putA_none, ↓aop_move, ↓aop_assign, ↓aop_pick, ↓aop_alloc, ↓aop_box, ↓aop_build, ↓aop_buildSlice, ↓aop_load, ↓aop_store, ↓aop_nilCheck, ↓aop_binOp, ↓aop_unOp, ↓aop_convert, ↓aop_makeSlice, ↓aop_fieldAddr, ↓aop_field, ↓aop_indexAddr, ↓aop_index, ↓aop_lookup, ↓aop_mapUpdate, ↓aop_insert, ↓aop_extract, ↓aop_callB, ↓aop_callF, ↓aop_callT, ↓aop_makeFunc, ↓aop_makeMap, ↓aop_slice, ↓aevs_nil, ↓aevs_cons, ↓evP_nil, ↓evP_cons, ↓aevO_none, ↓aevO_some, ↓reduceIte, reduceCtorEq, Nat.reduceEqDiff, Nat.reduceAdd, Nat.reduceLT, Nat.reduceSub, Nat.reduceMul, Nat.reduceLeDiff, if_true, if_false, if_pos, if_neg, st24]
omit hb in
theorem l24 : ∀ (r pre : List Int) (bs : List Bool), bs.length = A.length → A = pre ++ r → ∃ H, iter (roundA Try.cfg 24 iter (call Try.cfg) 0 a) (st24 A pre.length bs) = some (if seenL A.length r bs then (.exit 0, [], H) else (.ret, [(2, B false)], H))
  | [], pre, bs, hb, hp => by
    refine ⟨_, iter_last (r24e h hb hA (by simp [hp])) (by simp [seenL])⟩
  | x :: r, pre, bs, hb, hp => by
    have hi : pre.length < A.length := by simp [hp]
    have hx : A[pre.length]? = some x := by simp [hp]
    by_cases h1 : x < 0
    · refine ⟨[.cells true 0 (Bs bs)], ?_⟩
      simp only [seenL, h1, if_true, Bool.false_eq_true, if_false]
      exact iter_last (r24a h hb hA hi hx h1) (by simp)
    by_cases h2 : (A.length : Int) ≤ x
    · refine ⟨[.cells true 0 (Bs bs)], ?_⟩
      simp only [seenL, h1, h2, if_true, Bool.false_eq_true, if_false]
      exact iter_last (r24b h hb hA hi hx (by omega) h2) (by simp)
    have h4 : x.toNat < bs.length := by omega
    have hg : bs[x.toNat]? = some (bs.getD x.toNat false) := by simp [h4]
    cases h3 : bs.getD x.toNat false with
    | true =>
      rw [h3] at hg
      refine ⟨[.cells true 0 (Bs bs)], ?_⟩
      simp only [seenL, h1, h2, h3, if_true, Bool.false_eq_true, if_false]
      exact iter_last (r24c h hb hA hi hx (by omega) (by omega) hg) (by simp)
    | false =>
      rw [h3] at hg
      obtain ⟨H, hH⟩ := l24 r (pre ++ [x]) (bs.set x.toNat true) (by simpa using hb) (by simp [hp])
      refine ⟨H, ?_⟩
      simp only [seenL, h1, h2, h3, Bool.false_eq_true, if_false]
      refine iter_normal (r24d h hb hA hi hx (by omega) (by omega) hg) ?_
      simpa using hH
end
theorem call24 (A : List Int) (hA : A.length ≤ 1000) : call Try.cfg 24 [Is A] [] = some (B (validL A), []) := by
  refine call_step ?_
  by_cases h6 : A.length ≤ 6
  · cases hl : loopOf 0 Try.f24 with
    | none => cases hl
    | some a =>
      obtain ⟨H, hH⟩ := l24 (A := A) hl h6 A [] (List.replicate A.length false) (by simp) rfl
      cases hl
      rw [validL_eq h6] at hH
      simp only [st24, Is, Bs, List.length_nil, Int.natCast_zero] at hH
      have hd : decide (A.length ≤ 6) = true := by simpa using h6
      cases hv : seenL A.length A [false, false, false, false, false, false] with
      | true =>
        rw [hv, if_pos rfl] at hH
        simp -implicitDefEqProofs (maxSteps := 1000000) (disch := omega) only [stepA, bodyA, Try.cfgO, Try.sh24, Try.func24, Try.f24, push_cast, ↓dstAt_zero, ↓dstAt_succ, ↓arun_skip, ↓arun_region, ↓arun_seq, ↓arun_cond, ↓arun_block, ↓arun_loop, ↓arun_exit, ↓arun_ret, aops_nil, aops_cons, aops_cons_guard, ↓putA_some, ↓putA_none, ↓aop_move, ↓aop_assign, ↓aop_pick, ↓aop_alloc, ↓aop_box, ↓aop_build, ↓aop_buildSlice, ↓aop_load, ↓aop_store, ↓aop_nilCheck, ↓aop_binOp, ↓aop_unOp, ↓aop_convert, ↓aop_makeSlice, ↓aop_fieldAddr, ↓aop_field, ↓aop_indexAddr, ↓aop_index, ↓aop_lookup, ↓aop_mapUpdate, ↓aop_insert, ↓aop_extract, ↓aop_callB, ↓aop_callF, ↓aop_callT, ↓aop_makeFunc, ↓aop_makeMap, ↓aop_slice, ↓aevs_nil, ↓aevs_cons, ↓evP_nil, ↓evP_cons, ↓aevO_none, ↓aevO_some, ↓reduceIte, reduceCtorEq, Nat.reduceEqDiff, Nat.reduceAdd, Nat.reduceLT, Nat.reduceSub, Nat.reduceMul, Nat.reduceLeDiff, if_true, if_false, if_pos, if_neg, hH, validL, hv, hd]
      | false =>
        rw [hv, if_neg (by simp)] at hH
        simp -implicitDefEqProofs (maxSteps := 1000000) (disch := omega) only [stepA, bodyA, Try.cfgO, Try.sh24, Try.func24, Try.f24, push_cast, ↓dstAt_zero, ↓dstAt_succ, ↓arun_skip, ↓arun_region, ↓arun_seq, ↓arun_cond, ↓arun_block, ↓arun_loop, ↓arun_exit, ↓arun_ret, aops_nil, aops_cons, aops_cons_guard, ↓putA_some, ↓putA_none, ↓aop_move, ↓aop_assign, ↓aop_pick, ↓aop_alloc, ↓aop_box, ↓aop_build, ↓aop_buildSlice, ↓aop_load, ↓aop_store, ↓aop_nilCheck, ↓aop_binOp, ↓aop_unOp, ↓aop_convert, ↓aop_makeSlice, ↓aop_fieldAddr, ↓aop_field, ↓aop_indexAddr, ↓aop_index, ↓aop_lookup, ↓aop_mapUpdate, ↓aop_insert, ↓aop_extract, ↓aop_callB, ↓aop_callF, ↓aop_callT, ↓aop_makeFunc, ↓aop_makeMap, ↓aop_slice, ↓aevs_nil, ↓aevs_cons, ↓evP_nil, ↓evP_cons, ↓aevO_none, ↓aevO_some, ↓reduceIte, reduceCtorEq, Nat.reduceEqDiff, Nat.reduceAdd, Nat.reduceLT, Nat.reduceSub, Nat.reduceMul, Nat.reduceLeDiff, if_true, if_false, if_pos, if_neg, hH, validL, hv, hd]
  · have hd : decide (A.length ≤ 6) = false := by simpa using h6
    simp -implicitDefEqProofs (maxSteps := 1000000) (disch := omega) only [stepA, bodyA, Try.cfgO, Try.sh24, Try.func24, Try.f24, push_cast, ↓dstAt_zero, ↓dstAt_succ, ↓arun_skip, ↓arun_region, ↓arun_seq, ↓arun_cond, ↓arun_block, ↓arun_loop, ↓arun_exit, ↓arun_ret, aops_nil, aops_cons, aops_cons_guard, ↓putA_some, ↓putA_none, ↓aop_move, ↓aop_assign, ↓aop_pick, ↓aop_alloc, ↓aop_box, ↓aop_build, ↓aop_buildSlice, ↓aop_load, ↓aop_store, ↓aop_nilCheck, ↓aop_binOp, ↓aop_unOp, ↓aop_convert, ↓aop_makeSlice, ↓aop_fieldAddr, ↓aop_field, ↓aop_indexAddr, ↓aop_index, ↓aop_lookup, ↓aop_mapUpdate, ↓aop_insert, ↓aop_extract, ↓aop_callB, ↓aop_callF, ↓aop_callT, ↓aop_makeFunc, ↓aop_makeMap, ↓aop_slice, ↓aevs_nil, ↓aevs_cons, ↓evP_nil, ↓evP_cons, ↓aevO_none, ↓aevO_some, ↓reduceIte, reduceCtorEq, Nat.reduceEqDiff, Nat.reduceAdd, Nat.reduceLT, Nat.reduceSub, Nat.reduceMul, Nat.reduceLeDiff, if_true, if_false, if_pos, if_neg, validL, hd, Bool.false_and]
end Go.Proofs

/- product, Product, Unit, identity. -/
set_option linter.unusedVariables false
set_option linter.unusedSimpArgs false
set_option linter.unusedSectionVars false
namespace Go.Proofs
open Go.AI
set_option maxRecDepth 20000
theorem get_of {l : List Int} {i : Nat} (h : i < l.length) : l[i]? = some (l.getD i 0) := by simp [h]
/-- The identity. -/
def idP (n : Nat) : List Int := (List.range n).map fun (j : Nat) => (j : Int)
/-- The product. -/
def mulP (a b : List Int) : List Int := (List.range a.length).map fun j => a.getD (b.getD j 0).toNat 0
def Perm6 (a : List Int) : Prop := a.length ≤ 6 ∧ ∀ i, i < a.length → 0 ≤ a.getD i 0 ∧ a.getD i 0 < a.length
section
variable {a : Code} (h : loopOf 0 Try.f31 = some a) {n : Nat} (hn : n ≤ 1000)
include h hn
def st31 (n i : Nat) (os : List Int) : St := ([(3, .ms 1 0 0 n 1), (8, I n), (9, I i)], [.cells true 0 [], .cells true 0 (os.map I)])
theorem r31a {i : Nat} {os : List Int} (hi : i < n) (ho : os.length = n) : roundA Try.cfg 31 iter (call Try.cfg) 0 a (st31 n i os) = some (.normal, st31 n (i + 1) (os.set i i)) := by
  cases h
  simp -implicitDefEqProofs (disch := omega) only [push_cast, ↓dstAt_zero, ↓dstAt_succ, ↓arun_skip, ↓arun_region, ↓arun_seq, ↓arun_cond, ↓arun_block, ↓arun_loop, ↓arun_exit, ↓arun_ret, aops_nil, aops_cons, aops_cons_guard, ↓putA_some, ↓putA_none, ↓aop_move, ↓aop_assign, ↓aop_pick, ↓aop_alloc, ↓aop_box, ↓aop_build, ↓aop_buildSlice, ↓aop_load, ↓aop_store, ↓aop_nilCheck, ↓aop_binOp, ↓aop_unOp, ↓aop_convert, ↓aop_makeSlice, ↓aop_fieldAddr, ↓aop_field, ↓aop_indexAddr, ↓aop_index, ↓aop_lookup, ↓aop_mapUpdate, ↓aop_insert, ↓aop_extract, ↓aop_callB, ↓aop_callF, ↓aop_callT, ↓aop_makeFunc, ↓aop_makeMap, ↓aop_slice, ↓aevs_nil, ↓aevs_cons, ↓evP_nil, ↓evP_cons, ↓aevO_none, ↓aevO_some, ↓reduceIte, reduceCtorEq, Nat.reduceEqDiff, Nat.reduceAdd, Nat.reduceLT, Nat.reduceSub, Nat.reduceMul, Nat.reduceLeDiff, if_true, if_false, if_pos, if_neg, st31]
  try rfl
theorem r31b {os : List Int} (ho : os.length = n) : roundA Try.cfg 31 iter (call Try.cfg) 0 a (st31 n n os) = some (.exit 0, [(3, .ms 1 0 0 n 1)], [.cells true 0 [], .cells true 0 (os.map I)]) := by
  cases h
  simp -implicitDefEqProofs (disch := omega) only [push_cast, ↓dstAt_zero, ↓dstAt_succ, ↓arun_skip, ↓arun_region, ↓arun_seq, ↓arun_cond, ↓arun_block, ↓arun_loop, ↓arun_exit, ↓arun_ret, aops_nil, aops_cons, aops_cons_guard, ↓putA_some, ↓putA_none, ↓aop_move, ↓aop_assign, ↓aop_pick, ↓aop_alloc, ↓aop_box, ↓aop_build, ↓aop_buildSlice, ↓aop_load, ↓aop_store, ↓aop_nilCheck, ↓aop_binOp, ↓aop_unOp, ↓aop_convert, ↓aop_makeSlice, ↓aop_fieldAddr, ↓aop_field, ↓aop_indexAddr, ↓aop_index, ↓aop_lookup, ↓aop_mapUpdate, ↓aop_insert, ↓aop_extract, ↓aop_callB, ↓aop_callF, ↓aop_callT, ↓aop_makeFunc, ↓aop_makeMap, ↓aop_slice, ↓aevs_nil, ↓aevs_cons, ↓evP_nil, ↓evP_cons, ↓aevO_none, ↓aevO_some, ↓reduceIte, reduceCtorEq, Nat.reduceEqDiff, Nat.reduceAdd, Nat.reduceLT, Nat.reduceSub, Nat.reduceMul, Nat.reduceLeDiff, if_true, if_false, if_pos, if_neg, st31]
end
theorem call31 {n : Nat} (hn : n ≤ 1000) : call Try.cfg 31 [I n] [] = some (.sl false n ((idP n).map I), []) := by
  refine call_step ?_
  cases hl : loopOf 0 Try.f31 with
  | none => cases hl
  | some a =>
    have hH := iter_run (S := fun i => st31 n i (upto (fun (j : Nat) => (j : Int)) 0 n i)) (fun i hi => by
      show _ = some (Ex.normal, st31 n (i + 1) (upto (fun (j : Nat) => (j : Int)) 0 n (i + 1)))
      rw [← upto_set (fun (j : Nat) => (j : Int)) 0 hi]
      exact r31a hl hn hi (upto_length _ _ _ _)) (r31b hl hn (upto_length _ _ _ _)) (by simp) n 0 (by omega)
    cases hl
    have hlen : (idP n).length = n := by simp [idP]
    simp only [st31, Int.natCast_zero, upto_zero, upto_all] at hH
    rw [show (List.range n).map (fun (j : Nat) => (j : Int)) = idP n from rfl] at hH
    simp -implicitDefEqProofs (disch := omega) only [stepA, bodyA, Try.cfgO, Try.sh31, Try.func31, Try.f31, push_cast, ↓dstAt_zero, ↓dstAt_succ, ↓arun_skip, ↓arun_region, ↓arun_seq, ↓arun_cond, ↓arun_block, ↓arun_loop, ↓arun_exit, ↓arun_ret, aops_nil, aops_cons, aops_cons_guard, ↓putA_some, ↓putA_none, ↓aop_move, ↓aop_assign, ↓aop_pick, ↓aop_alloc, ↓aop_box, ↓aop_build, ↓aop_buildSlice, ↓aop_load, ↓aop_store, ↓aop_nilCheck, ↓aop_binOp, ↓aop_unOp, ↓aop_convert, ↓aop_makeSlice, ↓aop_fieldAddr, ↓aop_field, ↓aop_indexAddr, ↓aop_index, ↓aop_lookup, ↓aop_mapUpdate, ↓aop_insert, ↓aop_extract, ↓aop_callB, ↓aop_callF, ↓aop_callT, ↓aop_makeFunc, ↓aop_makeMap, ↓aop_slice, ↓aevs_nil, ↓aevs_cons, ↓evP_nil, ↓evP_cons, ↓aevO_none, ↓aevO_some, ↓reduceIte, reduceCtorEq, Nat.reduceEqDiff, Nat.reduceAdd, Nat.reduceLT, Nat.reduceSub, Nat.reduceMul, Nat.reduceLeDiff, if_true, if_false, if_pos, if_neg, hH]
section
variable {a : Code} (h : loopOf 0 Try.f38 = some a) {n : Nat} (hn : n ≤ 1000)
include h hn
def st38 (n i : Nat) (os : List Int) : St := ([(0, I n), (3, .ms 1 0 0 n 1), (4, I i)], [.cells true 0 [], .cells true 0 (os.map I)])
theorem r38a {i : Nat} {os : List Int} (hi : i < n) (ho : os.length = n) : roundA Try.cfg 38 iter (call Try.cfg) 0 a (st38 n i os) = some (.normal, st38 n (i + 1) (os.set i i)) := by
  cases h
  simp -implicitDefEqProofs (disch := omega) only [push_cast, ↓dstAt_zero, ↓dstAt_succ, ↓arun_skip, ↓arun_region, ↓arun_seq, ↓arun_cond, ↓arun_block, ↓arun_loop, ↓arun_exit, ↓arun_ret, aops_nil, aops_cons, aops_cons_guard, ↓putA_some, ↓putA_none, ↓aop_move, ↓aop_assign, ↓aop_pick, ↓aop_alloc, ↓aop_box, ↓aop_build, ↓aop_buildSlice, ↓aop_load, ↓aop_store, ↓aop_nilCheck, ↓aop_binOp, ↓aop_unOp, ↓aop_convert, ↓aop_makeSlice, ↓aop_fieldAddr, ↓aop_field, ↓aop_indexAddr, ↓aop_index, ↓aop_lookup, ↓aop_mapUpdate, ↓aop_insert, ↓aop_extract, ↓aop_callB, ↓aop_callF, ↓aop_callT, ↓aop_makeFunc, ↓aop_makeMap, ↓aop_slice, ↓aevs_nil, ↓aevs_cons, ↓evP_nil, ↓evP_cons, ↓aevO_none, ↓aevO_some, ↓reduceIte, reduceCtorEq, Nat.reduceEqDiff, Nat.reduceAdd, Nat.reduceLT, Nat.reduceSub, Nat.reduceMul, Nat.reduceLeDiff, if_true, if_false, if_pos, if_neg, st38]
  try rfl
theorem r38b {os : List Int} (ho : os.length = n) : roundA Try.cfg 38 iter (call Try.cfg) 0 a (st38 n n os) = some (.exit 0, [(3, .ms 1 0 0 n 1)], [.cells true 0 [], .cells true 0 (os.map I)]) := by
  cases h
  simp -implicitDefEqProofs (disch := omega) only [push_cast, ↓dstAt_zero, ↓dstAt_succ, ↓arun_skip, ↓arun_region, ↓arun_seq, ↓arun_cond, ↓arun_block, ↓arun_loop, ↓arun_exit, ↓arun_ret, aops_nil, aops_cons, aops_cons_guard, ↓putA_some, ↓putA_none, ↓aop_move, ↓aop_assign, ↓aop_pick, ↓aop_alloc, ↓aop_box, ↓aop_build, ↓aop_buildSlice, ↓aop_load, ↓aop_store, ↓aop_nilCheck, ↓aop_binOp, ↓aop_unOp, ↓aop_convert, ↓aop_makeSlice, ↓aop_fieldAddr, ↓aop_field, ↓aop_indexAddr, ↓aop_index, ↓aop_lookup, ↓aop_mapUpdate, ↓aop_insert, ↓aop_extract, ↓aop_callB, ↓aop_callF, ↓aop_callT, ↓aop_makeFunc, ↓aop_makeMap, ↓aop_slice, ↓aevs_nil, ↓aevs_cons, ↓evP_nil, ↓evP_cons, ↓aevO_none, ↓aevO_some, ↓reduceIte, reduceCtorEq, Nat.reduceEqDiff, Nat.reduceAdd, Nat.reduceLT, Nat.reduceSub, Nat.reduceMul, Nat.reduceLeDiff, if_true, if_false, if_pos, if_neg, st38]
end
theorem call38 {n : Nat} (hn : n ≤ 1000) : call Try.cfg 38 [I n] [] = some (.sl false n ((idP n).map I), []) := by
  refine call_step ?_
  cases hl : loopOf 0 Try.f38 with
  | none => cases hl
  | some a =>
    have hH := iter_run (S := fun i => st38 n i (upto (fun (j : Nat) => (j : Int)) 0 n i)) (fun i hi => by
      show _ = some (Ex.normal, st38 n (i + 1) (upto (fun (j : Nat) => (j : Int)) 0 n (i + 1)))
      rw [← upto_set (fun (j : Nat) => (j : Int)) 0 hi]
      exact r38a hl hn hi (upto_length _ _ _ _)) (r38b hl hn (upto_length _ _ _ _)) (by simp) n 0 (by omega)
    cases hl
    have hlen : (idP n).length = n := by simp [idP]
    simp only [st38, Int.natCast_zero, upto_zero, upto_all] at hH
    rw [show (List.range n).map (fun (j : Nat) => (j : Int)) = idP n from rfl] at hH
    simp -implicitDefEqProofs (disch := omega) only [stepA, bodyA, Try.cfgO, Try.sh38, Try.func38, Try.f38, push_cast, ↓dstAt_zero, ↓dstAt_succ, ↓arun_skip, ↓arun_region, ↓arun_seq, ↓arun_cond, ↓arun_block, ↓arun_loop, ↓arun_exit, ↓arun_ret, aops_nil, aops_cons, aops_cons_guard, ↓putA_some, ↓putA_none, ↓aop_move, ↓aop_assign, ↓aop_pick, ↓aop_alloc, ↓aop_box, ↓aop_build, ↓aop_buildSlice, ↓aop_load, ↓aop_store, ↓aop_nilCheck, ↓aop_binOp, ↓aop_unOp, ↓aop_convert, ↓aop_makeSlice, ↓aop_fieldAddr, ↓aop_field, ↓aop_indexAddr, ↓aop_index, ↓aop_lookup, ↓aop_mapUpdate, ↓aop_insert, ↓aop_extract, ↓aop_callB, ↓aop_callF, ↓aop_callT, ↓aop_makeFunc, ↓aop_makeMap, ↓aop_slice, ↓aevs_nil, ↓aevs_cons, ↓evP_nil, ↓evP_cons, ↓aevO_none, ↓aevO_some, ↓reduceIte, reduceCtorEq, Nat.reduceEqDiff, Nat.reduceAdd, Nat.reduceLT, Nat.reduceSub, Nat.reduceMul, Nat.reduceLeDiff, if_true, if_false, if_pos, if_neg, hH]
section
variable {a : Code} (h : loopOf 0 Try.f33 = some a) {A C : List Int} (hA : A.length ≤ 6) (hC : C.length = A.length) (hr : ∀ i, i < A.length → 0 ≤ C.getD i 0 ∧ C.getD i 0 < A.length)
include h hA hC hr
def st33 (A C : List Int) (i : Nat) (os : List Int) : St := ([(0, Is A), (5, .ms 1 0 0 A.length 1), (11, Is C), (12, I C.length), (13, I i)], [.cells true 0 [], .cells true 0 (os.map I)])
theorem r33a {i : Nat} {os : List Int} (hi : i < A.length) (ho : os.length = A.length) : roundA Try.cfg 33 iter (call Try.cfg) 0 a (st33 A C i os) = some (.normal, st33 A C (i + 1) (os.set i (A.getD (C.getD i 0).toNat 0))) := by
  cases h
  have h1 := hr i hi
  have hx : C[i]? = some (C.getD i 0) := get_of (by omega)
  generalize C.getD i 0 = x at *
  have hy : A[x.toNat]? = some (A.getD x.toNat 0) := get_of (by omega)
  simp -implicitDefEqProofs (disch := omega) only [push_cast, ↓dstAt_zero, ↓dstAt_succ, ↓arun_skip, ↓arun_region, ↓arun_seq, ↓arun_cond, ↓arun_block, ↓arun_loop, ↓arun_exit, ↓arun_ret, aops_nil, aops_cons, aops_cons_guard, ↓putA_some, ↓putA_none, ↓aop_move, ↓aop_assign, ↓aop_pick, ↓aop_alloc, ↓aop_box, ↓aop_build, ↓aop_buildSlice, ↓aop_load, ↓aop_store, ↓aop_nilCheck, ↓aop_binOp, ↓aop_unOp, ↓aop_convert, ↓aop_makeSlice, ↓aop_fieldAddr, ↓aop_field, ↓aop_indexAddr, ↓aop_index, ↓aop_lookup, ↓aop_mapUpdate, ↓aop_insert, ↓aop_extract, ↓aop_callB, ↓aop_callF, ↓aop_callT, ↓aop_makeFunc, ↓aop_makeMap, ↓aop_slice, ↓aevs_nil, ↓aevs_cons, ↓evP_nil, ↓evP_cons, ↓aevO_none, ↓aevO_some, ↓reduceIte, reduceCtorEq, Nat.reduceEqDiff, Nat.reduceAdd, Nat.reduceLT, Nat.reduceSub, Nat.reduceMul, Nat.reduceLeDiff, if_true, if_false, if_pos, if_neg, st33, hx, hy]
  try rfl
theorem r33b {os : List Int} (ho : os.length = A.length) : roundA Try.cfg 33 iter (call Try.cfg) 0 a (st33 A C A.length os) = some (.exit 0, [(5, .ms 1 0 0 A.length 1)], [.cells true 0 [], .cells true 0 (os.map I)]) := by
  cases h
  simp -implicitDefEqProofs (disch := omega) only [push_cast, ↓dstAt_zero, ↓dstAt_succ, ↓arun_skip, ↓arun_region, ↓arun_seq, ↓arun_cond, ↓arun_block, ↓arun_loop, ↓arun_exit, ↓arun_ret, aops_nil, aops_cons, aops_cons_guard, ↓putA_some, ↓putA_none, ↓aop_move, ↓aop_assign, ↓aop_pick, ↓aop_alloc, ↓aop_box, ↓aop_build, ↓aop_buildSlice, ↓aop_load, ↓aop_store, ↓aop_nilCheck, ↓aop_binOp, ↓aop_unOp, ↓aop_convert, ↓aop_makeSlice, ↓aop_fieldAddr, ↓aop_field, ↓aop_indexAddr, ↓aop_index, ↓aop_lookup, ↓aop_mapUpdate, ↓aop_insert, ↓aop_extract, ↓aop_callB, ↓aop_callF, ↓aop_callT, ↓aop_makeFunc, ↓aop_makeMap, ↓aop_slice, ↓aevs_nil, ↓aevs_cons, ↓evP_nil, ↓evP_cons, ↓aevO_none, ↓aevO_some, ↓reduceIte, reduceCtorEq, Nat.reduceEqDiff, Nat.reduceAdd, Nat.reduceLT, Nat.reduceSub, Nat.reduceMul, Nat.reduceLeDiff, if_true, if_false, if_pos, if_neg, st33]
end
theorem call33 {A C : List Int} (hA : A.length ≤ 6) (hC : C.length = A.length) (hr : ∀ i, i < A.length → 0 ≤ C.getD i 0 ∧ C.getD i 0 < A.length) : call Try.cfg 33 [Is A, Is C] [] = some (.sl false A.length ((mulP A C).map I), []) := by
  refine call_step ?_
  cases hl : loopOf 0 Try.f33 with
  | none => cases hl
  | some a =>
    have hH := iter_run (S := fun i => st33 A C i (upto (fun j => A.getD (C.getD j 0).toNat 0) 0 A.length i)) (fun i hi => by
      show _ = some (Ex.normal, st33 A C (i + 1) (upto (fun j => A.getD (C.getD j 0).toNat 0) 0 A.length (i + 1)))
      rw [← upto_set (fun j => A.getD (C.getD j 0).toNat 0) 0 hi]
      exact r33a hl hA hC hr hi (upto_length _ _ _ _)) (r33b hl hA hC hr (upto_length _ _ _ _)) (by simp) A.length 0 (by omega)
    cases hl
    have hlen : (mulP A C).length = A.length := by simp [mulP]
    simp only [st33, Is, Int.natCast_zero, upto_zero, upto_all] at hH
    rw [show (List.range A.length).map (fun j => A.getD (C.getD j 0).toNat 0) = mulP A C from rfl] at hH
    simp -implicitDefEqProofs (disch := omega) only [stepA, bodyA, Try.cfgO, Try.sh33, Try.func33, Try.f33, push_cast, ↓dstAt_zero, ↓dstAt_succ, ↓arun_skip, ↓arun_region, ↓arun_seq, ↓arun_cond, ↓arun_block, ↓arun_loop, ↓arun_exit, ↓arun_ret, aops_nil, aops_cons, aops_cons_guard, ↓putA_some, ↓putA_none, ↓aop_move, ↓aop_assign, ↓aop_pick, ↓aop_alloc, ↓aop_box, ↓aop_build, ↓aop_buildSlice, ↓aop_load, ↓aop_store, ↓aop_nilCheck, ↓aop_binOp, ↓aop_unOp, ↓aop_convert, ↓aop_makeSlice, ↓aop_fieldAddr, ↓aop_field, ↓aop_indexAddr, ↓aop_index, ↓aop_lookup, ↓aop_mapUpdate, ↓aop_insert, ↓aop_extract, ↓aop_callB, ↓aop_callF, ↓aop_callT, ↓aop_makeFunc, ↓aop_makeMap, ↓aop_slice, ↓aevs_nil, ↓aevs_cons, ↓evP_nil, ↓evP_cons, ↓aevO_none, ↓aevO_some, ↓reduceIte, reduceCtorEq, Nat.reduceEqDiff, Nat.reduceAdd, Nat.reduceLT, Nat.reduceSub, Nat.reduceMul, Nat.reduceLeDiff, if_true, if_false, if_pos, if_neg, hH]
section
variable {a : Code} (h : loopOf 0 Try.f41 = some a) {A C : List Int} (hA : A.length ≤ 6) (hC : C.length = A.length) (hr : ∀ i, i < A.length → 0 ≤ C.getD i 0 ∧ C.getD i 0 < A.length)
include h hA hC hr
def st41 (A C : List Int) (i : Nat) (os : List Int) : St := ([(0, Is A), (1, Is C), (5, .ms 1 0 0 A.length 1), (6, I i)], [.cells true 0 [], .cells true 0 (os.map I)])
theorem r41a {i : Nat} {os : List Int} (hi : i < A.length) (ho : os.length = A.length) : roundA Try.cfg 41 iter (call Try.cfg) 0 a (st41 A C i os) = some (.normal, st41 A C (i + 1) (os.set i (A.getD (C.getD i 0).toNat 0))) := by
  cases h
  have h1 := hr i hi
  have hx : C[i]? = some (C.getD i 0) := get_of (by omega)
  generalize C.getD i 0 = x at *
  have hy : A[x.toNat]? = some (A.getD x.toNat 0) := get_of (by omega)
  simp -implicitDefEqProofs (disch := omega) only [push_cast, ↓dstAt_zero, ↓dstAt_succ, ↓arun_skip, ↓arun_region, ↓arun_seq, ↓arun_cond, ↓arun_block, ↓arun_loop, ↓arun_exit, ↓arun_ret, aops_nil, aops_cons, aops_cons_guard, ↓putA_some, ↓putA_none, ↓aop_move, ↓aop_assign, ↓aop_pick, ↓aop_alloc, ↓aop_box, ↓aop_build, ↓aop_buildSlice, ↓aop_load, ↓aop_store, ↓aop_nilCheck, ↓aop_binOp, ↓aop_unOp, ↓aop_convert, ↓aop_makeSlice, ↓aop_fieldAddr, ↓aop_field, ↓aop_indexAddr, ↓aop_index, ↓aop_lookup, ↓aop_mapUpdate, ↓aop_insert, ↓aop_extract, ↓aop_callB, ↓aop_callF, ↓aop_callT, ↓aop_makeFunc, ↓aop_makeMap, ↓aop_slice, ↓aevs_nil, ↓aevs_cons, ↓evP_nil, ↓evP_cons, ↓aevO_none, ↓aevO_some, ↓reduceIte, reduceCtorEq, Nat.reduceEqDiff, Nat.reduceAdd, Nat.reduceLT, Nat.reduceSub, Nat.reduceMul, Nat.reduceLeDiff, if_true, if_false, if_pos, if_neg, st41, hx, hy]
  try rfl
theorem r41b {os : List Int} (ho : os.length = A.length) : roundA Try.cfg 41 iter (call Try.cfg) 0 a (st41 A C A.length os) = some (.exit 0, [(5, .ms 1 0 0 A.length 1)], [.cells true 0 [], .cells true 0 (os.map I)]) := by
  cases h
  simp -implicitDefEqProofs (disch := omega) only [push_cast, ↓dstAt_zero, ↓dstAt_succ, ↓arun_skip, ↓arun_region, ↓arun_seq, ↓arun_cond, ↓arun_block, ↓arun_loop, ↓arun_exit, ↓arun_ret, aops_nil, aops_cons, aops_cons_guard, ↓putA_some, ↓putA_none, ↓aop_move, ↓aop_assign, ↓aop_pick, ↓aop_alloc, ↓aop_box, ↓aop_build, ↓aop_buildSlice, ↓aop_load, ↓aop_store, ↓aop_nilCheck, ↓aop_binOp, ↓aop_unOp, ↓aop_convert, ↓aop_makeSlice, ↓aop_fieldAddr, ↓aop_field, ↓aop_indexAddr, ↓aop_index, ↓aop_lookup, ↓aop_mapUpdate, ↓aop_insert, ↓aop_extract, ↓aop_callB, ↓aop_callF, ↓aop_callT, ↓aop_makeFunc, ↓aop_makeMap, ↓aop_slice, ↓aevs_nil, ↓aevs_cons, ↓evP_nil, ↓evP_cons, ↓aevO_none, ↓aevO_some, ↓reduceIte, reduceCtorEq, Nat.reduceEqDiff, Nat.reduceAdd, Nat.reduceLT, Nat.reduceSub, Nat.reduceMul, Nat.reduceLeDiff, if_true, if_false, if_pos, if_neg, st41]
end
theorem call41 {A C : List Int} (hA : A.length ≤ 6) (hC : C.length = A.length) (hr : ∀ i, i < A.length → 0 ≤ C.getD i 0 ∧ C.getD i 0 < A.length) : call Try.cfg 41 [Is A, Is C] [] = some (.sl false A.length ((mulP A C).map I), []) := by
  refine call_step ?_
  cases hl : loopOf 0 Try.f41 with
  | none => cases hl
  | some a =>
    have hH := iter_run (S := fun i => st41 A C i (upto (fun j => A.getD (C.getD j 0).toNat 0) 0 A.length i)) (fun i hi => by
      show _ = some (Ex.normal, st41 A C (i + 1) (upto (fun j => A.getD (C.getD j 0).toNat 0) 0 A.length (i + 1)))
      rw [← upto_set (fun j => A.getD (C.getD j 0).toNat 0) 0 hi]
      exact r41a hl hA hC hr hi (upto_length _ _ _ _)) (r41b hl hA hC hr (upto_length _ _ _ _)) (by simp) A.length 0 (by omega)
    cases hl
    have hlen : (mulP A C).length = A.length := by simp [mulP]
    simp only [st41, Is, Int.natCast_zero, upto_zero, upto_all] at hH
    rw [show (List.range A.length).map (fun j => A.getD (C.getD j 0).toNat 0) = mulP A C from rfl] at hH
    simp -implicitDefEqProofs (disch := omega) only [stepA, bodyA, Try.cfgO, Try.sh41, Try.func41, Try.f41, push_cast, ↓dstAt_zero, ↓dstAt_succ, ↓arun_skip, ↓arun_region, ↓arun_seq, ↓arun_cond, ↓arun_block, ↓arun_loop, ↓arun_exit, ↓arun_ret, aops_nil, aops_cons, aops_cons_guard, ↓putA_some, ↓putA_none, ↓aop_move, ↓aop_assign, ↓aop_pick, ↓aop_alloc, ↓aop_box, ↓aop_build, ↓aop_buildSlice, ↓aop_load, ↓aop_store, ↓aop_nilCheck, ↓aop_binOp, ↓aop_unOp, ↓aop_convert, ↓aop_makeSlice, ↓aop_fieldAddr, ↓aop_field, ↓aop_indexAddr, ↓aop_index, ↓aop_lookup, ↓aop_mapUpdate, ↓aop_insert, ↓aop_extract, ↓aop_callB, ↓aop_callF, ↓aop_callT, ↓aop_makeFunc, ↓aop_makeMap, ↓aop_slice, ↓aevs_nil, ↓aevs_cons, ↓evP_nil, ↓evP_cons, ↓aevO_none, ↓aevO_some, ↓reduceIte, reduceCtorEq, Nat.reduceEqDiff, Nat.reduceAdd, Nat.reduceLT, Nat.reduceSub, Nat.reduceMul, Nat.reduceLeDiff, if_true, if_false, if_pos, if_neg, hH]
end Go.Proofs

/- Compose, ref.Compose, Inverse, ref.Inverse. -/
set_option linter.unusedVariables false
set_option linter.unusedSimpArgs false
set_option linter.unusedSectionVars false
namespace Go.Proofs
open Go.AI
set_option maxRecDepth 20000
theorem seenL_range (n : Int) : ∀ (l : List Int) (bs : List Bool), seenL n l bs = true → ∀ x ∈ l, 0 ≤ x ∧ x < n
  | [], _, _, x, hx => by cases hx
  | y :: r, bs, h, x, hx => by
    simp only [seenL] at h
    split at h
    · cases h
    · split at h
      · cases h
      · split at h
        · cases h
        · rcases List.mem_cons.1 hx with rfl | hx
          · omega
          · exact seenL_range n r _ h x hx
theorem valid_len {A : List Int} (h : validL A = true) : A.length ≤ 6 := by
  simp only [validL, Bool.and_eq_true, decide_eq_true_eq] at h
  exact h.1
theorem valid_range {A : List Int} (h : validL A = true) {i : Nat} (hi : i < A.length) : 0 ≤ A.getD i 0 ∧ A.getD i 0 < A.length := by
  simp only [validL, Bool.and_eq_true, decide_eq_true_eq] at h
  refine seenL_range _ A _ h.2 _ ?_
  have : A.getD i 0 = A[i] := by simp [hi]
  rw [this]
  exact List.getElem_mem hi
theorem call23u {A : List Int} (hA : A.length ≤ 1000) : call Try.cfg 23 [.sl false A.length (A.map I)] [] = some (.v (.bool (validL A)), []) := call23 A hA
theorem call24u {A : List Int} (hA : A.length ≤ 1000) : call Try.cfg 24 [.sl false A.length (A.map I)] [] = some (.v (.bool (validL A)), []) := call24 A hA
def compL (A C : List Int) : List Int × Int := if validL A && validL C then (if A.length = C.length then (mulP A C, 0) else ([], 4)) else ([], 1)
def rep2 (r : List Int × Int) : AV := .tu [Is r.1, I r.2]
theorem mulP_length (A C : List Int) : (mulP A C).length = A.length := by simp [mulP]
theorem call33u {A C : List Int} (hA : A.length ≤ 6) (hC : C.length = A.length) (hr : ∀ i, i < A.length → 0 ≤ C.getD i 0 ∧ C.getD i 0 < A.length) : call Try.cfg 33 [.sl false A.length (A.map I), .sl false C.length (C.map I)] [] = some (.sl false A.length ((mulP A C).map I), []) := call33 hA hC hr
theorem call41u {A C : List Int} (hA : A.length ≤ 6) (hC : C.length = A.length) (hr : ∀ i, i < A.length → 0 ≤ C.getD i 0 ∧ C.getD i 0 < A.length) : call Try.cfg 41 [.sl false A.length (A.map I), .sl false C.length (C.map I)] [] = some (.sl false A.length ((mulP A C).map I), []) := call41 hA hC hr
theorem call17 {A C : List Int} (hA : A.length ≤ 1000) (hC : C.length ≤ 1000) : call Try.cfg 17 [Is A, Is C] [] = some (rep2 (compL A C), []) := by
  refine call_step ?_
  have v1 := call23u hA
  have v2 := call23u hC
  cases hv : validL A with
  | false =>
    rw [hv] at v1
    have e : compL A C = ([], 1) := by simp [compL, hv]
    rw [e]
    simp -implicitDefEqProofs (maxSteps := 1000000) (disch := omega) only [stepA, bodyA, Try.cfgO, Try.sh17, Try.sh23, Try.func17, Try.f17, push_cast, ↓dstAt_zero, ↓dstAt_succ, ↓arun_skip, ↓arun_region, ↓arun_seq, ↓arun_cond, ↓arun_block, ↓arun_loop, ↓arun_exit, ↓arun_ret, aops_nil, aops_cons, aops_cons_guard, ↓putA_some, ↓putA_none, ↓aop_move, ↓aop_assign, ↓aop_pick, ↓aop_alloc, ↓aop_box, ↓aop_build, ↓aop_buildSlice, ↓aop_load, ↓aop_store, ↓aop_nilCheck, ↓aop_binOp, ↓aop_unOp, ↓aop_convert, ↓aop_makeSlice, ↓aop_fieldAddr, ↓aop_field, ↓aop_indexAddr, ↓aop_index, ↓aop_lookup, ↓aop_mapUpdate, ↓aop_insert, ↓aop_extract, ↓aop_callB, ↓aop_callF, ↓aop_callT, ↓aop_makeFunc, ↓aop_makeMap, ↓aop_slice, ↓aevs_nil, ↓aevs_cons, ↓evP_nil, ↓evP_cons, ↓aevO_none, ↓aevO_some, ↓reduceIte, reduceCtorEq, Nat.reduceEqDiff, Nat.reduceAdd, Nat.reduceLT, Nat.reduceSub, Nat.reduceMul, Nat.reduceLeDiff, if_true, if_false, if_pos, if_neg, v1, rep2]
    try rfl
  | true =>
    rw [hv] at v1
    cases hw : validL C with
    | false =>
      rw [hw] at v2
      have e : compL A C = ([], 1) := by simp [compL, hv, hw]
      rw [e]
      simp -implicitDefEqProofs (maxSteps := 1000000) (disch := omega) only [stepA, bodyA, Try.cfgO, Try.sh17, Try.sh23, Try.func17, Try.f17, push_cast, ↓dstAt_zero, ↓dstAt_succ, ↓arun_skip, ↓arun_region, ↓arun_seq, ↓arun_cond, ↓arun_block, ↓arun_loop, ↓arun_exit, ↓arun_ret, aops_nil, aops_cons, aops_cons_guard, ↓putA_some, ↓putA_none, ↓aop_move, ↓aop_assign, ↓aop_pick, ↓aop_alloc, ↓aop_box, ↓aop_build, ↓aop_buildSlice, ↓aop_load, ↓aop_store, ↓aop_nilCheck, ↓aop_binOp, ↓aop_unOp, ↓aop_convert, ↓aop_makeSlice, ↓aop_fieldAddr, ↓aop_field, ↓aop_indexAddr, ↓aop_index, ↓aop_lookup, ↓aop_mapUpdate, ↓aop_insert, ↓aop_extract, ↓aop_callB, ↓aop_callF, ↓aop_callT, ↓aop_makeFunc, ↓aop_makeMap, ↓aop_slice, ↓aevs_nil, ↓aevs_cons, ↓evP_nil, ↓evP_cons, ↓aevO_none, ↓aevO_some, ↓reduceIte, reduceCtorEq, Nat.reduceEqDiff, Nat.reduceAdd, Nat.reduceLT, Nat.reduceSub, Nat.reduceMul, Nat.reduceLeDiff, if_true, if_false, if_pos, if_neg, v1, v2, rep2]
      try rfl
    | true =>
      rw [hw] at v2
      have h6 := valid_len hv
      by_cases hl : A.length = C.length
      · have e : compL A C = (mulP A C, 0) := by simp [compL, hv, hw, hl]
        rw [e]
        have hm := call33u (A := A) (C := C) h6 hl.symm (fun i hi => by rw [hl]; exact valid_range hw (by omega))
        have hlen := mulP_length A C
        simp -implicitDefEqProofs (maxSteps := 1000000) (disch := omega) only [stepA, bodyA, Try.cfgO, Try.sh17, Try.sh23, Try.sh33, Try.func17, Try.f17, push_cast, ↓dstAt_zero, ↓dstAt_succ, ↓arun_skip, ↓arun_region, ↓arun_seq, ↓arun_cond, ↓arun_block, ↓arun_loop, ↓arun_exit, ↓arun_ret, aops_nil, aops_cons, aops_cons_guard, ↓putA_some, ↓putA_none, ↓aop_move, ↓aop_assign, ↓aop_pick, ↓aop_alloc, ↓aop_box, ↓aop_build, ↓aop_buildSlice, ↓aop_load, ↓aop_store, ↓aop_nilCheck, ↓aop_binOp, ↓aop_unOp, ↓aop_convert, ↓aop_makeSlice, ↓aop_fieldAddr, ↓aop_field, ↓aop_indexAddr, ↓aop_index, ↓aop_lookup, ↓aop_mapUpdate, ↓aop_insert, ↓aop_extract, ↓aop_callB, ↓aop_callF, ↓aop_callT, ↓aop_makeFunc, ↓aop_makeMap, ↓aop_slice, ↓aevs_nil, ↓aevs_cons, ↓evP_nil, ↓evP_cons, ↓aevO_none, ↓aevO_some, ↓reduceIte, reduceCtorEq, Nat.reduceEqDiff, Nat.reduceAdd, Nat.reduceLT, Nat.reduceSub, Nat.reduceMul, Nat.reduceLeDiff, if_true, if_false, if_pos, if_neg, v1, v2, hm, rep2, hlen]
        try rfl
      · have e : compL A C = ([], 4) := by simp [compL, hv, hw, hl]
        rw [e]
        simp -implicitDefEqProofs (maxSteps := 1000000) (disch := omega) only [stepA, bodyA, Try.cfgO, Try.sh17, Try.sh23, Try.func17, Try.f17, push_cast, ↓dstAt_zero, ↓dstAt_succ, ↓arun_skip, ↓arun_region, ↓arun_seq, ↓arun_cond, ↓arun_block, ↓arun_loop, ↓arun_exit, ↓arun_ret, aops_nil, aops_cons, aops_cons_guard, ↓putA_some, ↓putA_none, ↓aop_move, ↓aop_assign, ↓aop_pick, ↓aop_alloc, ↓aop_box, ↓aop_build, ↓aop_buildSlice, ↓aop_load, ↓aop_store, ↓aop_nilCheck, ↓aop_binOp, ↓aop_unOp, ↓aop_convert, ↓aop_makeSlice, ↓aop_fieldAddr, ↓aop_field, ↓aop_indexAddr, ↓aop_index, ↓aop_lookup, ↓aop_mapUpdate, ↓aop_insert, ↓aop_extract, ↓aop_callB, ↓aop_callF, ↓aop_callT, ↓aop_makeFunc, ↓aop_makeMap, ↓aop_slice, ↓aevs_nil, ↓aevs_cons, ↓evP_nil, ↓evP_cons, ↓aevO_none, ↓aevO_some, ↓reduceIte, reduceCtorEq, Nat.reduceEqDiff, Nat.reduceAdd, Nat.reduceLT, Nat.reduceSub, Nat.reduceMul, Nat.reduceLeDiff, if_true, if_false, if_pos, if_neg, v1, v2, rep2]
        try rfl
theorem call21 {A C : List Int} (hA : A.length ≤ 1000) (hC : C.length ≤ 1000) : call Try.cfg 21 [Is A, Is C] [] = some (rep2 (compL A C), []) := by
  refine call_step ?_
  have v1 := call24u hA
  have v2 := call24u hC
  cases hv : validL A with
  | false =>
    rw [hv] at v1
    have e : compL A C = ([], 1) := by simp [compL, hv]
    rw [e]
    simp -implicitDefEqProofs (maxSteps := 1000000) (disch := omega) only [stepA, bodyA, Try.cfgO, Try.sh21, Try.sh24, Try.func21, Try.f21, push_cast, ↓dstAt_zero, ↓dstAt_succ, ↓arun_skip, ↓arun_region, ↓arun_seq, ↓arun_cond, ↓arun_block, ↓arun_loop, ↓arun_exit, ↓arun_ret, aops_nil, aops_cons, aops_cons_guard, ↓putA_some, ↓putA_none, ↓aop_move, ↓aop_assign, ↓aop_pick, ↓aop_alloc, ↓aop_box, ↓aop_build, ↓aop_buildSlice, ↓aop_load, ↓aop_store, ↓aop_nilCheck, ↓aop_binOp, ↓aop_unOp, ↓aop_convert, ↓aop_makeSlice, ↓aop_fieldAddr, ↓aop_field, ↓aop_indexAddr, ↓aop_index, ↓aop_lookup, ↓aop_mapUpdate, ↓aop_insert, ↓aop_extract, ↓aop_callB, ↓aop_callF, ↓aop_callT, ↓aop_makeFunc, ↓aop_makeMap, ↓aop_slice, ↓aevs_nil, ↓aevs_cons, ↓evP_nil, ↓evP_cons, ↓aevO_none, ↓aevO_some, ↓reduceIte, reduceCtorEq, Nat.reduceEqDiff, Nat.reduceAdd, Nat.reduceLT, Nat.reduceSub, Nat.reduceMul, Nat.reduceLeDiff, if_true, if_false, if_pos, if_neg, v1, rep2]
    try rfl
  | true =>
    rw [hv] at v1
    cases hw : validL C with
    | false =>
      rw [hw] at v2
      have e : compL A C = ([], 1) := by simp [compL, hv, hw]
      rw [e]
      simp -implicitDefEqProofs (maxSteps := 1000000) (disch := omega) only [stepA, bodyA, Try.cfgO, Try.sh21, Try.sh24, Try.func21, Try.f21, push_cast, ↓dstAt_zero, ↓dstAt_succ, ↓arun_skip, ↓arun_region, ↓arun_seq, ↓arun_cond, ↓arun_block, ↓arun_loop, ↓arun_exit, ↓arun_ret, aops_nil, aops_cons, aops_cons_guard, ↓putA_some, ↓putA_none, ↓aop_move, ↓aop_assign, ↓aop_pick, ↓aop_alloc, ↓aop_box, ↓aop_build, ↓aop_buildSlice, ↓aop_load, ↓aop_store, ↓aop_nilCheck, ↓aop_binOp, ↓aop_unOp, ↓aop_convert, ↓aop_makeSlice, ↓aop_fieldAddr, ↓aop_field, ↓aop_indexAddr, ↓aop_index, ↓aop_lookup, ↓aop_mapUpdate, ↓aop_insert, ↓aop_extract, ↓aop_callB, ↓aop_callF, ↓aop_callT, ↓aop_makeFunc, ↓aop_makeMap, ↓aop_slice, ↓aevs_nil, ↓aevs_cons, ↓evP_nil, ↓evP_cons, ↓aevO_none, ↓aevO_some, ↓reduceIte, reduceCtorEq, Nat.reduceEqDiff, Nat.reduceAdd, Nat.reduceLT, Nat.reduceSub, Nat.reduceMul, Nat.reduceLeDiff, if_true, if_false, if_pos, if_neg, v1, v2, rep2]
      try rfl
    | true =>
      rw [hw] at v2
      have h6 := valid_len hv
      by_cases hl : A.length = C.length
      · have e : compL A C = (mulP A C, 0) := by simp [compL, hv, hw, hl]
        rw [e]
        have hm := call41u (A := A) (C := C) h6 hl.symm (fun i hi => by rw [hl]; exact valid_range hw (by omega))
        have hlen := mulP_length A C
        simp -implicitDefEqProofs (maxSteps := 1000000) (disch := omega) only [stepA, bodyA, Try.cfgO, Try.sh21, Try.sh24, Try.sh41, Try.func21, Try.f21, push_cast, ↓dstAt_zero, ↓dstAt_succ, ↓arun_skip, ↓arun_region, ↓arun_seq, ↓arun_cond, ↓arun_block, ↓arun_loop, ↓arun_exit, ↓arun_ret, aops_nil, aops_cons, aops_cons_guard, ↓putA_some, ↓putA_none, ↓aop_move, ↓aop_assign, ↓aop_pick, ↓aop_alloc, ↓aop_box, ↓aop_build, ↓aop_buildSlice, ↓aop_load, ↓aop_store, ↓aop_nilCheck, ↓aop_binOp, ↓aop_unOp, ↓aop_convert, ↓aop_makeSlice, ↓aop_fieldAddr, ↓aop_field, ↓aop_indexAddr, ↓aop_index, ↓aop_lookup, ↓aop_mapUpdate, ↓aop_insert, ↓aop_extract, ↓aop_callB, ↓aop_callF, ↓aop_callT, ↓aop_makeFunc, ↓aop_makeMap, ↓aop_slice, ↓aevs_nil, ↓aevs_cons, ↓evP_nil, ↓evP_cons, ↓aevO_none, ↓aevO_some, ↓reduceIte, reduceCtorEq, Nat.reduceEqDiff, Nat.reduceAdd, Nat.reduceLT, Nat.reduceSub, Nat.reduceMul, Nat.reduceLeDiff, if_true, if_false, if_pos, if_neg, v1, v2, hm, rep2, hlen]
        try rfl
      · have e : compL A C = ([], 4) := by simp [compL, hv, hw, hl]
        rw [e]
        simp -implicitDefEqProofs (maxSteps := 1000000) (disch := omega) only [stepA, bodyA, Try.cfgO, Try.sh21, Try.sh24, Try.func21, Try.f21, push_cast, ↓dstAt_zero, ↓dstAt_succ, ↓arun_skip, ↓arun_region, ↓arun_seq, ↓arun_cond, ↓arun_block, ↓arun_loop, ↓arun_exit, ↓arun_ret, aops_nil, aops_cons, aops_cons_guard, ↓putA_some, ↓putA_none, ↓aop_move, ↓aop_assign, ↓aop_pick, ↓aop_alloc, ↓aop_box, ↓aop_build, ↓aop_buildSlice, ↓aop_load, ↓aop_store, ↓aop_nilCheck, ↓aop_binOp, ↓aop_unOp, ↓aop_convert, ↓aop_makeSlice, ↓aop_fieldAddr, ↓aop_field, ↓aop_indexAddr, ↓aop_index, ↓aop_lookup, ↓aop_mapUpdate, ↓aop_insert, ↓aop_extract, ↓aop_callB, ↓aop_callF, ↓aop_callT, ↓aop_makeFunc, ↓aop_makeMap, ↓aop_slice, ↓aevs_nil, ↓aevs_cons, ↓evP_nil, ↓evP_cons, ↓aevO_none, ↓aevO_some, ↓reduceIte, reduceCtorEq, Nat.reduceEqDiff, Nat.reduceAdd, Nat.reduceLT, Nat.reduceSub, Nat.reduceMul, Nat.reduceLeDiff, if_true, if_false, if_pos, if_neg, v1, v2, rep2]
        try rfl
end Go.Proofs

/- Inverse, ref.Inverse. -/
set_option linter.unusedVariables false
set_option linter.unusedSimpArgs false
set_option linter.unusedSectionVars false
namespace Go.Proofs
open Go.AI
set_option maxRecDepth 20000
def invS (A : List Int) : Nat → List Int
  | 0 => List.replicate A.length 0
  | i + 1 => (invS A i).set (A.getD i 0).toNat i
theorem invS_length (A : List Int) : ∀ i, (invS A i).length = A.length
  | 0 => by simp [invS]
  | i + 1 => by simp [invS, invS_length A i]
def invL (A : List Int) : List Int × Int := if validL A then (invS A A.length, 0) else ([], 1)
section
variable {a : Code} (h : loopOf 0 Try.f18 = some a) {A : List Int} (hv : validL A = true)
include h hv
def st18 (A : List Int) (i : Nat) (os : List Int) : St := ([(4, .ms 1 0 0 A.length 1), (13, Is A), (14, I A.length), (15, I i)], [.cells true 0 [], .cells true 0 (os.map I)])
theorem r18a {i : Nat} {os : List Int} (hi : i < A.length) (ho : os.length = A.length) : roundA Try.cfg 18 iter (call Try.cfg) 0 a (st18 A i os) = some (.normal, st18 A (i + 1) (os.set (A.getD i 0).toNat i)) := by
  cases h
  have h6 := valid_len hv
  have h1 := valid_range hv hi
  have hx : A[i]? = some (A.getD i 0) := by simp [hi]
  generalize A.getD i 0 = x at *
  simp -implicitDefEqProofs (maxSteps := 1000000) (disch := omega) only [push_cast, ↓dstAt_zero, ↓dstAt_succ, ↓arun_skip, ↓arun_region, ↓arun_seq, ↓arun_cond, ↓arun_block, ↓arun_loop, ↓arun_exit, ↓arun_ret, aops_nil, aops_cons, aops_cons_guard, ↓putA_some, ↓putA_none, ↓aop_move, ↓aop_assign, ↓aop_pick, ↓aop_alloc, ↓aop_box, ↓aop_build, ↓aop_buildSlice, ↓aop_load, ↓aop_store, ↓aop_nilCheck, ↓aop_binOp, ↓aop_unOp, ↓aop_convert, ↓aop_makeSlice, ↓aop_fieldAddr, ↓aop_field, ↓aop_indexAddr, ↓aop_index, ↓aop_lookup, ↓aop_mapUpdate, ↓aop_insert, ↓aop_extract, ↓aop_callB, ↓aop_callF, ↓aop_callT, ↓aop_makeFunc, ↓aop_makeMap, ↓aop_slice, ↓aevs_nil, ↓aevs_cons, ↓evP_nil, ↓evP_cons, ↓aevO_none, ↓aevO_some, ↓reduceIte, reduceCtorEq, Nat.reduceEqDiff, Nat.reduceAdd, Nat.reduceLT, Nat.reduceSub, Nat.reduceMul, Nat.reduceLeDiff, if_true, if_false, if_pos, if_neg, st18, hx]
  try rfl
theorem r18b {os : List Int} (ho : os.length = A.length) : roundA Try.cfg 18 iter (call Try.cfg) 0 a (st18 A A.length os) = some (.exit 0, [(4, .ms 1 0 0 A.length 1)], [.cells true 0 [], .cells true 0 (os.map I)]) := by
  cases h
  have h6 := valid_len hv
  simp -implicitDefEqProofs (maxSteps := 1000000) (disch := omega) only [push_cast, ↓dstAt_zero, ↓dstAt_succ, ↓arun_skip, ↓arun_region, ↓arun_seq, ↓arun_cond, ↓arun_block, ↓arun_loop, ↓arun_exit, ↓arun_ret, aops_nil, aops_cons, aops_cons_guard, ↓putA_some, ↓putA_none, ↓aop_move, ↓aop_assign, ↓aop_pick, ↓aop_alloc, ↓aop_box, ↓aop_build, ↓aop_buildSlice, ↓aop_load, ↓aop_store, ↓aop_nilCheck, ↓aop_binOp, ↓aop_unOp, ↓aop_convert, ↓aop_makeSlice, ↓aop_fieldAddr, ↓aop_field, ↓aop_indexAddr, ↓aop_index, ↓aop_lookup, ↓aop_mapUpdate, ↓aop_insert, ↓aop_extract, ↓aop_callB, ↓aop_callF, ↓aop_callT, ↓aop_makeFunc, ↓aop_makeMap, ↓aop_slice, ↓aevs_nil, ↓aevs_cons, ↓evP_nil, ↓evP_cons, ↓aevO_none, ↓aevO_some, ↓reduceIte, reduceCtorEq, Nat.reduceEqDiff, Nat.reduceAdd, Nat.reduceLT, Nat.reduceSub, Nat.reduceMul, Nat.reduceLeDiff, if_true, if_false, if_pos, if_neg, st18]
end
theorem call18 {A : List Int} (hA : A.length ≤ 1000) : call Try.cfg 18 [Is A] [] = some (rep2 (invL A), []) := by
  refine call_step ?_
  have v1 := call23u hA
  cases hv : validL A with
  | false =>
    rw [hv] at v1
    have e : invL A = ([], 1) := by simp [invL, hv]
    rw [e]
    simp -implicitDefEqProofs (maxSteps := 1000000) (disch := omega) only [stepA, bodyA, Try.cfgO, Try.sh18, Try.sh23, Try.func18, Try.f18, push_cast, ↓dstAt_zero, ↓dstAt_succ, ↓arun_skip, ↓arun_region, ↓arun_seq, ↓arun_cond, ↓arun_block, ↓arun_loop, ↓arun_exit, ↓arun_ret, aops_nil, aops_cons, aops_cons_guard, ↓putA_some, ↓putA_none, ↓aop_move, ↓aop_assign, ↓aop_pick, ↓aop_alloc, ↓aop_box, ↓aop_build, ↓aop_buildSlice, ↓aop_load, ↓aop_store, ↓aop_nilCheck, ↓aop_binOp, ↓aop_unOp, ↓aop_convert, ↓aop_makeSlice, ↓aop_fieldAddr, ↓aop_field, ↓aop_indexAddr, ↓aop_index, ↓aop_lookup, ↓aop_mapUpdate, ↓aop_insert, ↓aop_extract, ↓aop_callB, ↓aop_callF, ↓aop_callT, ↓aop_makeFunc, ↓aop_makeMap, ↓aop_slice, ↓aevs_nil, ↓aevs_cons, ↓evP_nil, ↓evP_cons, ↓aevO_none, ↓aevO_some, ↓reduceIte, reduceCtorEq, Nat.reduceEqDiff, Nat.reduceAdd, Nat.reduceLT, Nat.reduceSub, Nat.reduceMul, Nat.reduceLeDiff, if_true, if_false, if_pos, if_neg, v1, rep2]
    try rfl
  | true =>
    rw [hv] at v1
    have h6 := valid_len hv
    have e : invL A = (invS A A.length, 0) := by simp [invL, hv]
    rw [e]
    cases hl : loopOf 0 Try.f18 with
    | none => cases hl
    | some a =>
      have hH := iter_run (S := fun i => st18 A i (invS A i)) (fun i hi => r18a hl hv hi (invS_length A i)) (r18b hl hv (invS_length A A.length)) (by simp) A.length 0 (by omega)
      cases hl
      have hlen := invS_length A A.length
      have e0 : invS A 0 = List.replicate A.length 0 := rfl
      simp only [st18, Is, Int.natCast_zero, e0] at hH
      generalize invS A A.length = os at *
      simp -implicitDefEqProofs (maxSteps := 1000000) (disch := omega) only [stepA, bodyA, Try.cfgO, Try.sh18, Try.sh23, Try.func18, Try.f18, push_cast, ↓dstAt_zero, ↓dstAt_succ, ↓arun_skip, ↓arun_region, ↓arun_seq, ↓arun_cond, ↓arun_block, ↓arun_loop, ↓arun_exit, ↓arun_ret, aops_nil, aops_cons, aops_cons_guard, ↓putA_some, ↓putA_none, ↓aop_move, ↓aop_assign, ↓aop_pick, ↓aop_alloc, ↓aop_box, ↓aop_build, ↓aop_buildSlice, ↓aop_load, ↓aop_store, ↓aop_nilCheck, ↓aop_binOp, ↓aop_unOp, ↓aop_convert, ↓aop_makeSlice, ↓aop_fieldAddr, ↓aop_field, ↓aop_indexAddr, ↓aop_index, ↓aop_lookup, ↓aop_mapUpdate, ↓aop_insert, ↓aop_extract, ↓aop_callB, ↓aop_callF, ↓aop_callT, ↓aop_makeFunc, ↓aop_makeMap, ↓aop_slice, ↓aevs_nil, ↓aevs_cons, ↓evP_nil, ↓evP_cons, ↓aevO_none, ↓aevO_some, ↓reduceIte, reduceCtorEq, Nat.reduceEqDiff, Nat.reduceAdd, Nat.reduceLT, Nat.reduceSub, Nat.reduceMul, Nat.reduceLeDiff, if_true, if_false, if_pos, if_neg, v1, hH, rep2, hlen]
      try rfl
section
variable {a : Code} (h : loopOf 0 Try.f22 = some a) {A : List Int} (hv : validL A = true)
include h hv
def st22 (A : List Int) (i : Nat) (os : List Int) : St := ([(0, Is A), (4, .ms 1 0 0 A.length 1), (5, I i)], [.cells true 0 [], .cells true 0 (os.map I)])
theorem r22a {i : Nat} {os : List Int} (hi : i < A.length) (ho : os.length = A.length) : roundA Try.cfg 22 iter (call Try.cfg) 0 a (st22 A i os) = some (.normal, st22 A (i + 1) (os.set (A.getD i 0).toNat i)) := by
  cases h
  have h6 := valid_len hv
  have h1 := valid_range hv hi
  have hx : A[i]? = some (A.getD i 0) := by simp [hi]
  generalize A.getD i 0 = x at *
  simp -implicitDefEqProofs (maxSteps := 1000000) (disch := omega) only [push_cast, ↓dstAt_zero, ↓dstAt_succ, ↓arun_skip, ↓arun_region, ↓arun_seq, ↓arun_cond, ↓arun_block, ↓arun_loop, ↓arun_exit, ↓arun_ret, aops_nil, aops_cons, aops_cons_guard, ↓putA_some, ↓putA_none, ↓aop_move, ↓aop_assign, ↓aop_pick, ↓aop_alloc, ↓aop_box, ↓aop_build, ↓aop_buildSlice, ↓aop_load, ↓aop_store, ↓aop_nilCheck, ↓aop_binOp, ↓aop_unOp, ↓aop_convert, ↓aop_makeSlice, ↓aop_fieldAddr, ↓aop_field, ↓aop_indexAddr, ↓aop_index, ↓aop_lookup, ↓aop_mapUpdate, ↓aop_insert, ↓aop_extract, ↓aop_callB, ↓aop_callF, ↓aop_callT, ↓aop_makeFunc, ↓aop_makeMap, ↓aop_slice, ↓aevs_nil, ↓aevs_cons, ↓evP_nil, ↓evP_cons, ↓aevO_none, ↓aevO_some, ↓reduceIte, reduceCtorEq, Nat.reduceEqDiff, Nat.reduceAdd, Nat.reduceLT, Nat.reduceSub, Nat.reduceMul, Nat.reduceLeDiff, if_true, if_false, if_pos, if_neg, st22, hx]
  try rfl
theorem r22b {os : List Int} (ho : os.length = A.length) : roundA Try.cfg 22 iter (call Try.cfg) 0 a (st22 A A.length os) = some (.exit 0, [(4, .ms 1 0 0 A.length 1)], [.cells true 0 [], .cells true 0 (os.map I)]) := by
  cases h
  have h6 := valid_len hv
  simp -implicitDefEqProofs (maxSteps := 1000000) (disch := omega) only [push_cast, ↓dstAt_zero, ↓dstAt_succ, ↓arun_skip, ↓arun_region, ↓arun_seq, ↓arun_cond, ↓arun_block, ↓arun_loop, ↓arun_exit, ↓arun_ret, aops_nil, aops_cons, aops_cons_guard, ↓putA_some, ↓putA_none, ↓aop_move, ↓aop_assign, ↓aop_pick, ↓aop_alloc, ↓aop_box, ↓aop_build, ↓aop_buildSlice, ↓aop_load, ↓aop_store, ↓aop_nilCheck, ↓aop_binOp, ↓aop_unOp, ↓aop_convert, ↓aop_makeSlice, ↓aop_fieldAddr, ↓aop_field, ↓aop_indexAddr, ↓aop_index, ↓aop_lookup, ↓aop_mapUpdate, ↓aop_insert, ↓aop_extract, ↓aop_callB, ↓aop_callF, ↓aop_callT, ↓aop_makeFunc, ↓aop_makeMap, ↓aop_slice, ↓aevs_nil, ↓aevs_cons, ↓evP_nil, ↓evP_cons, ↓aevO_none, ↓aevO_some, ↓reduceIte, reduceCtorEq, Nat.reduceEqDiff, Nat.reduceAdd, Nat.reduceLT, Nat.reduceSub, Nat.reduceMul, Nat.reduceLeDiff, if_true, if_false, if_pos, if_neg, st22]
end
theorem call22 {A : List Int} (hA : A.length ≤ 1000) : call Try.cfg 22 [Is A] [] = some (rep2 (invL A), []) := by
  refine call_step ?_
  have v1 := call24u hA
  cases hv : validL A with
  | false =>
    rw [hv] at v1
    have e : invL A = ([], 1) := by simp [invL, hv]
    rw [e]
    simp -implicitDefEqProofs (maxSteps := 1000000) (disch := omega) only [stepA, bodyA, Try.cfgO, Try.sh22, Try.sh24, Try.func22, Try.f22, push_cast, ↓dstAt_zero, ↓dstAt_succ, ↓arun_skip, ↓arun_region, ↓arun_seq, ↓arun_cond, ↓arun_block, ↓arun_loop, ↓arun_exit, ↓arun_ret, aops_nil, aops_cons, aops_cons_guard, ↓putA_some, ↓putA_none, ↓aop_move, ↓aop_assign, ↓aop_pick, ↓aop_alloc, ↓aop_box, ↓aop_build, ↓aop_buildSlice, ↓aop_load, ↓aop_store, ↓aop_nilCheck, ↓aop_binOp, ↓aop_unOp, ↓aop_convert, ↓aop_makeSlice, ↓aop_fieldAddr, ↓aop_field, ↓aop_indexAddr, ↓aop_index, ↓aop_lookup, ↓aop_mapUpdate, ↓aop_insert, ↓aop_extract, ↓aop_callB, ↓aop_callF, ↓aop_callT, ↓aop_makeFunc, ↓aop_makeMap, ↓aop_slice, ↓aevs_nil, ↓aevs_cons, ↓evP_nil, ↓evP_cons, ↓aevO_none, ↓aevO_some, ↓reduceIte, reduceCtorEq, Nat.reduceEqDiff, Nat.reduceAdd, Nat.reduceLT, Nat.reduceSub, Nat.reduceMul, Nat.reduceLeDiff, if_true, if_false, if_pos, if_neg, v1, rep2]
    try rfl
  | true =>
    rw [hv] at v1
    have h6 := valid_len hv
    have e : invL A = (invS A A.length, 0) := by simp [invL, hv]
    rw [e]
    cases hl : loopOf 0 Try.f22 with
    | none => cases hl
    | some a =>
      have hH := iter_run (S := fun i => st22 A i (invS A i)) (fun i hi => r22a hl hv hi (invS_length A i)) (r22b hl hv (invS_length A A.length)) (by simp) A.length 0 (by omega)
      cases hl
      have hlen := invS_length A A.length
      have e0 : invS A 0 = List.replicate A.length 0 := rfl
      simp only [st22, Is, Int.natCast_zero, e0] at hH
      generalize invS A A.length = os at *
      simp -implicitDefEqProofs (maxSteps := 1000000) (disch := omega) only [stepA, bodyA, Try.cfgO, Try.sh22, Try.sh24, Try.func22, Try.f22, push_cast, ↓dstAt_zero, ↓dstAt_succ, ↓arun_skip, ↓arun_region, ↓arun_seq, ↓arun_cond, ↓arun_block, ↓arun_loop, ↓arun_exit, ↓arun_ret, aops_nil, aops_cons, aops_cons_guard, ↓putA_some, ↓putA_none, ↓aop_move, ↓aop_assign, ↓aop_pick, ↓aop_alloc, ↓aop_box, ↓aop_build, ↓aop_buildSlice, ↓aop_load, ↓aop_store, ↓aop_nilCheck, ↓aop_binOp, ↓aop_unOp, ↓aop_convert, ↓aop_makeSlice, ↓aop_fieldAddr, ↓aop_field, ↓aop_indexAddr, ↓aop_index, ↓aop_lookup, ↓aop_mapUpdate, ↓aop_insert, ↓aop_extract, ↓aop_callB, ↓aop_callF, ↓aop_callT, ↓aop_makeFunc, ↓aop_makeMap, ↓aop_slice, ↓aevs_nil, ↓aevs_cons, ↓evP_nil, ↓evP_cons, ↓aevO_none, ↓aevO_some, ↓reduceIte, reduceCtorEq, Nat.reduceEqDiff, Nat.reduceAdd, Nat.reduceLT, Nat.reduceSub, Nat.reduceMul, Nat.reduceLeDiff, if_true, if_false, if_pos, if_neg, v1, hH, rep2, hlen]
      try rfl
end Go.Proofs

/- Ints, Equal, Lists, few. -/
set_option linter.unusedVariables false
set_option linter.unusedSimpArgs false
set_option linter.unusedSectionVars false
namespace Go.Proofs
open Go.AI
set_option maxRecDepth 20000
section
variable {a : Code} (h : loopOf 0 Try.f20 = some a) {A C : List Int} (hA : A.length ≤ 1000000) (hC : C.length = A.length)
include h hA hC
def st20 (A C : List Int) (i : Nat) : St := ([(0, Is A), (1, Is C), (5, I i)], [])
theorem r20a {i : Nat} (hi : i < A.length) (hq : decide (A.getD i 0 = C.getD i 0) = true) : roundA Try.cfg 20 iter (call Try.cfg) 0 a (st20 A C i) = some (.normal, st20 A C (i + 1)) := by
  cases h
  have hx : A[i]? = some (A.getD i 0) := by simp [hi]
  have hy : C[i]? = some (C.getD i 0) := by simp [hi, hC]
  have he := of_decide_eq_true hq
  simp -implicitDefEqProofs (disch := omega) only [push_cast, ↓dstAt_zero, ↓dstAt_succ, ↓arun_skip, ↓arun_region, ↓arun_seq, ↓arun_cond, ↓arun_block, ↓arun_loop, ↓arun_exit, ↓arun_ret, aops_nil, aops_cons, aops_cons_guard, ↓putA_some, ↓putA_none, ↓aop_move, ↓aop_assign, ↓aop_pick, ↓aop_alloc, ↓aop_box, ↓aop_build, ↓aop_buildSlice, ↓aop_load, ↓aop_store, ↓aop_nilCheck, ↓aop_binOp, ↓aop_unOp, ↓aop_convert, ↓aop_makeSlice, ↓aop_fieldAddr, ↓aop_field, ↓aop_indexAddr, ↓aop_index, ↓aop_lookup, ↓aop_mapUpdate, ↓aop_insert, ↓aop_extract, ↓aop_callB, ↓aop_callF, ↓aop_callT, ↓aop_makeFunc, ↓aop_makeMap, ↓aop_slice, ↓aevs_nil, ↓aevs_cons, ↓evP_nil, ↓evP_cons, ↓aevO_none, ↓aevO_some, ↓reduceIte, reduceCtorEq, Nat.reduceEqDiff, Nat.reduceAdd, Nat.reduceLT, Nat.reduceSub, Nat.reduceMul, Nat.reduceLeDiff, if_true, if_false, if_pos, if_neg, st20, hx, hy]
  try rfl
theorem r20b {i : Nat} (hi : i < A.length) (hq : decide (A.getD i 0 = C.getD i 0) = false) : roundA Try.cfg 20 iter (call Try.cfg) 0 a (st20 A C i) = some (.ret, [(4, B false)], []) := by
  cases h
  have hx : A[i]? = some (A.getD i 0) := by simp [hi]
  have hy : C[i]? = some (C.getD i 0) := by simp [hi, hC]
  have he := of_decide_eq_false hq
  simp -implicitDefEqProofs (disch := omega) only [push_cast, ↓dstAt_zero, ↓dstAt_succ, ↓arun_skip, ↓arun_region, ↓arun_seq, ↓arun_cond, ↓arun_block, ↓arun_loop, ↓arun_exit, ↓arun_ret, aops_nil, aops_cons, aops_cons_guard, ↓putA_some, ↓putA_none, ↓aop_move, ↓aop_assign, ↓aop_pick, ↓aop_alloc, ↓aop_box, ↓aop_build, ↓aop_buildSlice, ↓aop_load, ↓aop_store, ↓aop_nilCheck, ↓aop_binOp, ↓aop_unOp, ↓aop_convert, ↓aop_makeSlice, ↓aop_fieldAddr, ↓aop_field, ↓aop_indexAddr, ↓aop_index, ↓aop_lookup, ↓aop_mapUpdate, ↓aop_insert, ↓aop_extract, ↓aop_callB, ↓aop_callF, ↓aop_callT, ↓aop_makeFunc, ↓aop_makeMap, ↓aop_slice, ↓aevs_nil, ↓aevs_cons, ↓evP_nil, ↓evP_cons, ↓aevO_none, ↓aevO_some, ↓reduceIte, reduceCtorEq, Nat.reduceEqDiff, Nat.reduceAdd, Nat.reduceLT, Nat.reduceSub, Nat.reduceMul, Nat.reduceLeDiff, if_true, if_false, if_pos, if_neg, st20, hx, hy]
theorem r20c : roundA Try.cfg 20 iter (call Try.cfg) 0 a (st20 A C A.length) = some (.exit 0, [], []) := by
  cases h
  simp -implicitDefEqProofs (disch := omega) only [push_cast, ↓dstAt_zero, ↓dstAt_succ, ↓arun_skip, ↓arun_region, ↓arun_seq, ↓arun_cond, ↓arun_block, ↓arun_loop, ↓arun_exit, ↓arun_ret, aops_nil, aops_cons, aops_cons_guard, ↓putA_some, ↓putA_none, ↓aop_move, ↓aop_assign, ↓aop_pick, ↓aop_alloc, ↓aop_box, ↓aop_build, ↓aop_buildSlice, ↓aop_load, ↓aop_store, ↓aop_nilCheck, ↓aop_binOp, ↓aop_unOp, ↓aop_convert, ↓aop_makeSlice, ↓aop_fieldAddr, ↓aop_field, ↓aop_indexAddr, ↓aop_index, ↓aop_lookup, ↓aop_mapUpdate, ↓aop_insert, ↓aop_extract, ↓aop_callB, ↓aop_callF, ↓aop_callT, ↓aop_makeFunc, ↓aop_makeMap, ↓aop_slice, ↓aevs_nil, ↓aevs_cons, ↓evP_nil, ↓evP_cons, ↓aevO_none, ↓aevO_some, ↓reduceIte, reduceCtorEq, Nat.reduceEqDiff, Nat.reduceAdd, Nat.reduceLT, Nat.reduceSub, Nat.reduceMul, Nat.reduceLeDiff, if_true, if_false, if_pos, if_neg, st20]
end
theorem call20 {A C : List Int} (hA : A.length ≤ 1000000) (hC : C.length ≤ 1000000) : call Try.cfg 20 [Is A, Is C] [] = some (B (decide (A = C)), []) := by
  refine call_step ?_
  by_cases hl : C.length = A.length
  · cases hlo : loopOf 0 Try.f20 with
    | none => cases hlo
    | some a =>
      have hH := iter_all (S := fun i => st20 A C i) (q := fun i => decide (A.getD i 0 = C.getD i 0)) (fun i hi hq => r20a hlo hA hl hi hq) (fun i hi hq => r20b hlo hA hl hi hq) (r20c hlo hA hl) (by simp) (by simp) A.length 0 (by omega)
      cases hlo
      rw [all_eq 0 hl.symm] at hH
      simp only [st20, Is, Int.natCast_zero] at hH
      cases hd : decide (A = C) with
      | true =>
        rw [hd, if_pos rfl] at hH
        simp -implicitDefEqProofs (disch := omega) only [stepA, bodyA, Try.cfgO, Try.sh20, Try.func20, Try.f20, push_cast, ↓dstAt_zero, ↓dstAt_succ, ↓arun_skip, ↓arun_region, ↓arun_seq, ↓arun_cond, ↓arun_block, ↓arun_loop, ↓arun_exit, ↓arun_ret, aops_nil, aops_cons, aops_cons_guard, ↓putA_some, ↓putA_none, ↓aop_move, ↓aop_assign, ↓aop_pick, ↓aop_alloc, ↓aop_box, ↓aop_build, ↓aop_buildSlice, ↓aop_load, ↓aop_store, ↓aop_nilCheck, ↓aop_binOp, ↓aop_unOp, ↓aop_convert, ↓aop_makeSlice, ↓aop_fieldAddr, ↓aop_field, ↓aop_indexAddr, ↓aop_index, ↓aop_lookup, ↓aop_mapUpdate, ↓aop_insert, ↓aop_extract, ↓aop_callB, ↓aop_callF, ↓aop_callT, ↓aop_makeFunc, ↓aop_makeMap, ↓aop_slice, ↓aevs_nil, ↓aevs_cons, ↓evP_nil, ↓evP_cons, ↓aevO_none, ↓aevO_some, ↓reduceIte, reduceCtorEq, Nat.reduceEqDiff, Nat.reduceAdd, Nat.reduceLT, Nat.reduceSub, Nat.reduceMul, Nat.reduceLeDiff, if_true, if_false, if_pos, if_neg, hH]
      | false =>
        rw [hd, if_neg (by simp)] at hH
        simp -implicitDefEqProofs (disch := omega) only [stepA, bodyA, Try.cfgO, Try.sh20, Try.func20, Try.f20, push_cast, ↓dstAt_zero, ↓dstAt_succ, ↓arun_skip, ↓arun_region, ↓arun_seq, ↓arun_cond, ↓arun_block, ↓arun_loop, ↓arun_exit, ↓arun_ret, aops_nil, aops_cons, aops_cons_guard, ↓putA_some, ↓putA_none, ↓aop_move, ↓aop_assign, ↓aop_pick, ↓aop_alloc, ↓aop_box, ↓aop_build, ↓aop_buildSlice, ↓aop_load, ↓aop_store, ↓aop_nilCheck, ↓aop_binOp, ↓aop_unOp, ↓aop_convert, ↓aop_makeSlice, ↓aop_fieldAddr, ↓aop_field, ↓aop_indexAddr, ↓aop_index, ↓aop_lookup, ↓aop_mapUpdate, ↓aop_insert, ↓aop_extract, ↓aop_callB, ↓aop_callF, ↓aop_callT, ↓aop_makeFunc, ↓aop_makeMap, ↓aop_slice, ↓aevs_nil, ↓aevs_cons, ↓evP_nil, ↓evP_cons, ↓aevO_none, ↓aevO_some, ↓reduceIte, reduceCtorEq, Nat.reduceEqDiff, Nat.reduceAdd, Nat.reduceLT, Nat.reduceSub, Nat.reduceMul, Nat.reduceLeDiff, if_true, if_false, if_pos, if_neg, hH]
  · have hd : decide (A = C) = false := decide_eq_false (fun e => hl (by rw [e]))
    rw [hd]
    simp -implicitDefEqProofs (disch := omega) only [stepA, bodyA, Try.cfgO, Try.sh20, Try.func20, Try.f20, push_cast, ↓dstAt_zero, ↓dstAt_succ, ↓arun_skip, ↓arun_region, ↓arun_seq, ↓arun_cond, ↓arun_block, ↓arun_loop, ↓arun_exit, ↓arun_ret, aops_nil, aops_cons, aops_cons_guard, ↓putA_some, ↓putA_none, ↓aop_move, ↓aop_assign, ↓aop_pick, ↓aop_alloc, ↓aop_box, ↓aop_build, ↓aop_buildSlice, ↓aop_load, ↓aop_store, ↓aop_nilCheck, ↓aop_binOp, ↓aop_unOp, ↓aop_convert, ↓aop_makeSlice, ↓aop_fieldAddr, ↓aop_field, ↓aop_indexAddr, ↓aop_index, ↓aop_lookup, ↓aop_mapUpdate, ↓aop_insert, ↓aop_extract, ↓aop_callB, ↓aop_callF, ↓aop_callT, ↓aop_makeFunc, ↓aop_makeMap, ↓aop_slice, ↓aevs_nil, ↓aevs_cons, ↓evP_nil, ↓evP_cons, ↓aevO_none, ↓aevO_some, ↓reduceIte, reduceCtorEq, Nat.reduceEqDiff, Nat.reduceAdd, Nat.reduceLT, Nat.reduceSub, Nat.reduceMul, Nat.reduceLeDiff, if_true, if_false, if_pos, if_neg, ]
section
variable {a : Code} (h : loopOf 0 Try.f37 = some a) {A C : List Int} (hA : A.length ≤ 1000000) (hC : C.length = A.length)
include h hA hC
def st37 (A C : List Int) (i : Nat) : St := ([(0, Is A), (1, Is C), (12, I A.length), (13, I i)], [])
theorem r37a {i : Nat} (hi : i < A.length) (hq : decide (A.getD i 0 = C.getD i 0) = true) : roundA Try.cfg 37 iter (call Try.cfg) 0 a (st37 A C i) = some (.normal, st37 A C (i + 1)) := by
  cases h
  have hx : A[i]? = some (A.getD i 0) := by simp [hi]
  have hy : C[i]? = some (C.getD i 0) := by simp [hi, hC]
  have he := of_decide_eq_true hq
  simp -implicitDefEqProofs (disch := omega) only [push_cast, ↓dstAt_zero, ↓dstAt_succ, ↓arun_skip, ↓arun_region, ↓arun_seq, ↓arun_cond, ↓arun_block, ↓arun_loop, ↓arun_exit, ↓arun_ret, aops_nil, aops_cons, aops_cons_guard, ↓putA_some, ↓putA_none, ↓aop_move, ↓aop_assign, ↓aop_pick, ↓aop_alloc, ↓aop_box, ↓aop_build, ↓aop_buildSlice, ↓aop_load, ↓aop_store, ↓aop_nilCheck, ↓aop_binOp, ↓aop_unOp, ↓aop_convert, ↓aop_makeSlice, ↓aop_fieldAddr, ↓aop_field, ↓aop_indexAddr, ↓aop_index, ↓aop_lookup, ↓aop_mapUpdate, ↓aop_insert, ↓aop_extract, ↓aop_callB, ↓aop_callF, ↓aop_callT, ↓aop_makeFunc, ↓aop_makeMap, ↓aop_slice, ↓aevs_nil, ↓aevs_cons, ↓evP_nil, ↓evP_cons, ↓aevO_none, ↓aevO_some, ↓reduceIte, reduceCtorEq, Nat.reduceEqDiff, Nat.reduceAdd, Nat.reduceLT, Nat.reduceSub, Nat.reduceMul, Nat.reduceLeDiff, if_true, if_false, if_pos, if_neg, st37, hx, hy]
  try rfl
theorem r37b {i : Nat} (hi : i < A.length) (hq : decide (A.getD i 0 = C.getD i 0) = false) : roundA Try.cfg 37 iter (call Try.cfg) 0 a (st37 A C i) = some (.ret, [(4, B false)], []) := by
  cases h
  have hx : A[i]? = some (A.getD i 0) := by simp [hi]
  have hy : C[i]? = some (C.getD i 0) := by simp [hi, hC]
  have he := of_decide_eq_false hq
  simp -implicitDefEqProofs (disch := omega) only [push_cast, ↓dstAt_zero, ↓dstAt_succ, ↓arun_skip, ↓arun_region, ↓arun_seq, ↓arun_cond, ↓arun_block, ↓arun_loop, ↓arun_exit, ↓arun_ret, aops_nil, aops_cons, aops_cons_guard, ↓putA_some, ↓putA_none, ↓aop_move, ↓aop_assign, ↓aop_pick, ↓aop_alloc, ↓aop_box, ↓aop_build, ↓aop_buildSlice, ↓aop_load, ↓aop_store, ↓aop_nilCheck, ↓aop_binOp, ↓aop_unOp, ↓aop_convert, ↓aop_makeSlice, ↓aop_fieldAddr, ↓aop_field, ↓aop_indexAddr, ↓aop_index, ↓aop_lookup, ↓aop_mapUpdate, ↓aop_insert, ↓aop_extract, ↓aop_callB, ↓aop_callF, ↓aop_callT, ↓aop_makeFunc, ↓aop_makeMap, ↓aop_slice, ↓aevs_nil, ↓aevs_cons, ↓evP_nil, ↓evP_cons, ↓aevO_none, ↓aevO_some, ↓reduceIte, reduceCtorEq, Nat.reduceEqDiff, Nat.reduceAdd, Nat.reduceLT, Nat.reduceSub, Nat.reduceMul, Nat.reduceLeDiff, if_true, if_false, if_pos, if_neg, st37, hx, hy]
theorem r37c : roundA Try.cfg 37 iter (call Try.cfg) 0 a (st37 A C A.length) = some (.exit 0, [], []) := by
  cases h
  simp -implicitDefEqProofs (disch := omega) only [push_cast, ↓dstAt_zero, ↓dstAt_succ, ↓arun_skip, ↓arun_region, ↓arun_seq, ↓arun_cond, ↓arun_block, ↓arun_loop, ↓arun_exit, ↓arun_ret, aops_nil, aops_cons, aops_cons_guard, ↓putA_some, ↓putA_none, ↓aop_move, ↓aop_assign, ↓aop_pick, ↓aop_alloc, ↓aop_box, ↓aop_build, ↓aop_buildSlice, ↓aop_load, ↓aop_store, ↓aop_nilCheck, ↓aop_binOp, ↓aop_unOp, ↓aop_convert, ↓aop_makeSlice, ↓aop_fieldAddr, ↓aop_field, ↓aop_indexAddr, ↓aop_index, ↓aop_lookup, ↓aop_mapUpdate, ↓aop_insert, ↓aop_extract, ↓aop_callB, ↓aop_callF, ↓aop_callT, ↓aop_makeFunc, ↓aop_makeMap, ↓aop_slice, ↓aevs_nil, ↓aevs_cons, ↓evP_nil, ↓evP_cons, ↓aevO_none, ↓aevO_some, ↓reduceIte, reduceCtorEq, Nat.reduceEqDiff, Nat.reduceAdd, Nat.reduceLT, Nat.reduceSub, Nat.reduceMul, Nat.reduceLeDiff, if_true, if_false, if_pos, if_neg, st37]
end
theorem call37 {A C : List Int} (hA : A.length ≤ 1000000) (hC : C.length ≤ 1000000) : call Try.cfg 37 [Is A, Is C] [] = some (B (decide (A = C)), []) := by
  refine call_step ?_
  by_cases hl : C.length = A.length
  · cases hlo : loopOf 0 Try.f37 with
    | none => cases hlo
    | some a =>
      have hH := iter_all (S := fun i => st37 A C i) (q := fun i => decide (A.getD i 0 = C.getD i 0)) (fun i hi hq => r37a hlo hA hl hi hq) (fun i hi hq => r37b hlo hA hl hi hq) (r37c hlo hA hl) (by simp) (by simp) A.length 0 (by omega)
      cases hlo
      rw [all_eq 0 hl.symm] at hH
      simp only [st37, Is, Int.natCast_zero] at hH
      cases hd : decide (A = C) with
      | true =>
        rw [hd, if_pos rfl] at hH
        simp -implicitDefEqProofs (disch := omega) only [stepA, bodyA, Try.cfgO, Try.sh37, Try.func37, Try.f37, push_cast, ↓dstAt_zero, ↓dstAt_succ, ↓arun_skip, ↓arun_region, ↓arun_seq, ↓arun_cond, ↓arun_block, ↓arun_loop, ↓arun_exit, ↓arun_ret, aops_nil, aops_cons, aops_cons_guard, ↓putA_some, ↓putA_none, ↓aop_move, ↓aop_assign, ↓aop_pick, ↓aop_alloc, ↓aop_box, ↓aop_build, ↓aop_buildSlice, ↓aop_load, ↓aop_store, ↓aop_nilCheck, ↓aop_binOp, ↓aop_unOp, ↓aop_convert, ↓aop_makeSlice, ↓aop_fieldAddr, ↓aop_field, ↓aop_indexAddr, ↓aop_index, ↓aop_lookup, ↓aop_mapUpdate, ↓aop_insert, ↓aop_extract, ↓aop_callB, ↓aop_callF, ↓aop_callT, ↓aop_makeFunc, ↓aop_makeMap, ↓aop_slice, ↓aevs_nil, ↓aevs_cons, ↓evP_nil, ↓evP_cons, ↓aevO_none, ↓aevO_some, ↓reduceIte, reduceCtorEq, Nat.reduceEqDiff, Nat.reduceAdd, Nat.reduceLT, Nat.reduceSub, Nat.reduceMul, Nat.reduceLeDiff, if_true, if_false, if_pos, if_neg, hH]
      | false =>
        rw [hd, if_neg (by simp)] at hH
        simp -implicitDefEqProofs (disch := omega) only [stepA, bodyA, Try.cfgO, Try.sh37, Try.func37, Try.f37, push_cast, ↓dstAt_zero, ↓dstAt_succ, ↓arun_skip, ↓arun_region, ↓arun_seq, ↓arun_cond, ↓arun_block, ↓arun_loop, ↓arun_exit, ↓arun_ret, aops_nil, aops_cons, aops_cons_guard, ↓putA_some, ↓putA_none, ↓aop_move, ↓aop_assign, ↓aop_pick, ↓aop_alloc, ↓aop_box, ↓aop_build, ↓aop_buildSlice, ↓aop_load, ↓aop_store, ↓aop_nilCheck, ↓aop_binOp, ↓aop_unOp, ↓aop_convert, ↓aop_makeSlice, ↓aop_fieldAddr, ↓aop_field, ↓aop_indexAddr, ↓aop_index, ↓aop_lookup, ↓aop_mapUpdate, ↓aop_insert, ↓aop_extract, ↓aop_callB, ↓aop_callF, ↓aop_callT, ↓aop_makeFunc, ↓aop_makeMap, ↓aop_slice, ↓aevs_nil, ↓aevs_cons, ↓evP_nil, ↓evP_cons, ↓aevO_none, ↓aevO_some, ↓reduceIte, reduceCtorEq, Nat.reduceEqDiff, Nat.reduceAdd, Nat.reduceLT, Nat.reduceSub, Nat.reduceMul, Nat.reduceLeDiff, if_true, if_false, if_pos, if_neg, hH]
  · have hd : decide (A = C) = false := decide_eq_false (fun e => hl (by rw [e]))
    rw [hd]
    simp -implicitDefEqProofs (disch := omega) only [stepA, bodyA, Try.cfgO, Try.sh37, Try.func37, Try.f37, push_cast, ↓dstAt_zero, ↓dstAt_succ, ↓arun_skip, ↓arun_region, ↓arun_seq, ↓arun_cond, ↓arun_block, ↓arun_loop, ↓arun_exit, ↓arun_ret, aops_nil, aops_cons, aops_cons_guard, ↓putA_some, ↓putA_none, ↓aop_move, ↓aop_assign, ↓aop_pick, ↓aop_alloc, ↓aop_box, ↓aop_build, ↓aop_buildSlice, ↓aop_load, ↓aop_store, ↓aop_nilCheck, ↓aop_binOp, ↓aop_unOp, ↓aop_convert, ↓aop_makeSlice, ↓aop_fieldAddr, ↓aop_field, ↓aop_indexAddr, ↓aop_index, ↓aop_lookup, ↓aop_mapUpdate, ↓aop_insert, ↓aop_extract, ↓aop_callB, ↓aop_callF, ↓aop_callT, ↓aop_makeFunc, ↓aop_makeMap, ↓aop_slice, ↓aevs_nil, ↓aevs_cons, ↓evP_nil, ↓evP_cons, ↓aevO_none, ↓aevO_some, ↓reduceIte, reduceCtorEq, Nat.reduceEqDiff, Nat.reduceAdd, Nat.reduceLT, Nat.reduceSub, Nat.reduceMul, Nat.reduceLeDiff, if_true, if_false, if_pos, if_neg, ]
end Go.Proofs

/- Plain laws of permutations of at most six places. -/
set_option linter.unusedVariables false
namespace Go.Proofs
open Go.AI
def enumL (n : Nat) : Nat → List Bool → List (List Int)
  | 0, _ => [[]]
  | k + 1, bs => (List.range n).flatMap fun x => if bs.getD x false then [] else (enumL n k (bs.set x true)).map fun l => (x : Int) :: l
theorem mem_enum (n : Nat) : ∀ (l : List Int) (bs : List Bool), seenL n l bs = true → l ∈ enumL n l.length bs
  | [], bs, _ => by simp [enumL]
  | x :: r, bs, h => by
    simp only [seenL] at h
    split at h
    · cases h
    · rename_i h1
      split at h
      · cases h
      · rename_i h2
        split at h
        · cases h
        · rename_i h3
          simp only [List.length_cons, enumL, List.mem_flatMap, List.mem_range]
          refine ⟨x.toNat, by omega, ?_⟩
          rw [if_neg h3]
          have e : ((x.toNat : Nat) : Int) = x := by omega
          rw [e]
          exact List.mem_map_of_mem (mem_enum n r _ h)
def six : List Bool := [false, false, false, false, false, false]
/-- What holds of all of them holds of each. -/
theorem valid_all {q : List Int → Bool} (h : ((List.range 7).all fun n => (enumL n n six).all q) = true) {A : List Int} (hv : validL A = true) : q A = true := by
  have h6 := valid_len hv
  simp only [validL, Bool.and_eq_true, decide_eq_true_eq] at hv
  have hm := mem_enum A.length A _ hv.2
  have h1 := List.all_eq_true.1 h A.length (by simp; omega)
  exact List.all_eq_true.1 h1 A hm
def powP (A : List Int) : Nat → List Int
  | 0 => A
  | j + 1 => mulP A (powP A j)
def ordOk (A : List Int) : Bool := (List.range 6).any fun j => decide (powP A j = idP A.length)
theorem ord_all : ((List.range 7).all fun n => (enumL n n six).all ordOk) = true := by kernel_rfl
end Go.Proofs

/- Order, ref.Order. -/
set_option linter.unusedVariables false
set_option linter.unusedSimpArgs false
set_option linter.unusedSectionVars false
namespace Go.Proofs
open Go.AI
set_option maxRecDepth 20000
theorem powP_length (A : List Int) : ∀ j, (powP A j).length = A.length
  | 0 => rfl
  | j + 1 => mulP_length A _
theorem powP_range {A : List Int} (hv : validL A = true) : ∀ j i, i < A.length → 0 ≤ (powP A j).getD i 0 ∧ (powP A j).getD i 0 < A.length
  | 0, i, hi => valid_range hv hi
  | j + 1, i, hi => by
    have h := powP_range hv j i hi
    have e : (mulP A (powP A j)).getD i 0 = A.getD ((powP A j).getD i 0).toNat 0 := by simp [mulP, hi]
    rw [powP, e]
    exact valid_range hv (by omega)
theorem idP_length (n : Nat) : (idP n).length = n := by simp [idP]
def ordF (A : List Int) : Nat → Nat → Nat
  | 0, j => j
  | k + 1, j => if powP A j = idP A.length then j else ordF A k (j + 1)
def ordL (A : List Int) : Int × Int := if validL A then (((ordF A 6 0 + 1 : Nat) : Int), 0) else (0, 1)
theorem call37u {A C : List Int} (hA : A.length ≤ 1000000) (hC : C.length ≤ 1000000) : call Try.cfg 37 [.sl false A.length (A.map I), .sl false C.length (C.map I)] [] = some (.v (.bool (decide (A = C))), []) := call37 hA hC
theorem call31u {n : Nat} (hn : n ≤ 1000) : call Try.cfg 31 [.v (.int .i64 n)] [] = some (.sl false n ((idP n).map I), []) := call31 hn
theorem call38u {n : Nat} (hn : n ≤ 1000) : call Try.cfg 38 [.v (.int .i64 n)] [] = some (.sl false n ((idP n).map I), []) := call38 hn
section
variable {a : Code} (h : loopOf 0 Try.f19 = some a) {A : List Int} (hv : validL A = true)
include h hv
def st19 (A : List Int) (j : Nat) : St := ([(0, Is A), (4, Is (idP A.length)), (5, I ((j : Int) + 1)), (6, Is (powP A j))], [])
theorem r19a {j : Nat} (hj : j ≤ 6) (hne : decide (powP A j = idP A.length) = false) : roundA Try.cfg 19 iter (call Try.cfg) 0 a (st19 A j) = some (.normal, st19 A (j + 1)) := by
  cases h
  have h6 := valid_len hv
  have hl := powP_length A j
  have hi := idP_length A.length
  have h37 := call37u (A := powP A j) (C := idP A.length) (by omega) (by omega)
  rw [hne] at h37
  have h33 := call33u (A := A) (C := powP A j) h6 hl (powP_range hv j)
  have hm := mulP_length A (powP A j)
  have hs : st19 A (j + 1) = ([(0, Is A), (4, Is (idP A.length)), (5, I (((j + 1 : Nat) : Int) + 1)), (6, Is (mulP A (powP A j)))], []) := rfl
  rw [hs]
  simp -implicitDefEqProofs (maxSteps := 1000000) (disch := omega) only [push_cast, ↓dstAt_zero, ↓dstAt_succ, ↓arun_skip, ↓arun_region, ↓arun_seq, ↓arun_cond, ↓arun_block, ↓arun_loop, ↓arun_exit, ↓arun_ret, aops_nil, aops_cons, aops_cons_guard, ↓putA_some, ↓putA_none, ↓aop_move, ↓aop_assign, ↓aop_pick, ↓aop_alloc, ↓aop_box, ↓aop_build, ↓aop_buildSlice, ↓aop_load, ↓aop_store, ↓aop_nilCheck, ↓aop_binOp, ↓aop_unOp, ↓aop_convert, ↓aop_makeSlice, ↓aop_fieldAddr, ↓aop_field, ↓aop_indexAddr, ↓aop_index, ↓aop_lookup, ↓aop_mapUpdate, ↓aop_insert, ↓aop_extract, ↓aop_callB, ↓aop_callF, ↓aop_callT, ↓aop_makeFunc, ↓aop_makeMap, ↓aop_slice, ↓aevs_nil, ↓aevs_cons, ↓evP_nil, ↓evP_cons, ↓aevO_none, ↓aevO_some, ↓reduceIte, reduceCtorEq, Nat.reduceEqDiff, Nat.reduceAdd, Nat.reduceLT, Nat.reduceSub, Nat.reduceMul, Nat.reduceLeDiff, if_true, if_false, if_pos, if_neg, Try.sh37, Try.sh33, st19, h37, h33, hm]
  try rfl
theorem r19b {j : Nat} (hj : j ≤ 6) (hne : decide (powP A j = idP A.length) = true) : roundA Try.cfg 19 iter (call Try.cfg) 0 a (st19 A j) = some (.exit 0, [(5, I ((j : Int) + 1))], []) := by
  cases h
  have h6 := valid_len hv
  have hl := powP_length A j
  have hi := idP_length A.length
  have h37 := call37u (A := powP A j) (C := idP A.length) (by omega) (by omega)
  rw [hne] at h37
  simp -implicitDefEqProofs (maxSteps := 1000000) (disch := omega) only [push_cast, ↓dstAt_zero, ↓dstAt_succ, ↓arun_skip, ↓arun_region, ↓arun_seq, ↓arun_cond, ↓arun_block, ↓arun_loop, ↓arun_exit, ↓arun_ret, aops_nil, aops_cons, aops_cons_guard, ↓putA_some, ↓putA_none, ↓aop_move, ↓aop_assign, ↓aop_pick, ↓aop_alloc, ↓aop_box, ↓aop_build, ↓aop_buildSlice, ↓aop_load, ↓aop_store, ↓aop_nilCheck, ↓aop_binOp, ↓aop_unOp, ↓aop_convert, ↓aop_makeSlice, ↓aop_fieldAddr, ↓aop_field, ↓aop_indexAddr, ↓aop_index, ↓aop_lookup, ↓aop_mapUpdate, ↓aop_insert, ↓aop_extract, ↓aop_callB, ↓aop_callF, ↓aop_callT, ↓aop_makeFunc, ↓aop_makeMap, ↓aop_slice, ↓aevs_nil, ↓aevs_cons, ↓evP_nil, ↓evP_cons, ↓aevO_none, ↓aevO_some, ↓reduceIte, reduceCtorEq, Nat.reduceEqDiff, Nat.reduceAdd, Nat.reduceLT, Nat.reduceSub, Nat.reduceMul, Nat.reduceLeDiff, if_true, if_false, if_pos, if_neg, Try.sh37, Try.sh33, st19, h37]
theorem l19 : ∀ k j, j + k = 6 → (∃ m, j ≤ m ∧ m < 6 ∧ powP A m = idP A.length) → iter (roundA Try.cfg 19 iter (call Try.cfg) 0 a) (st19 A j) = some (.exit 0, [(5, I ((ordF A k j : Int) + 1))], [])
  | 0, j, hj, ⟨m, h1, h2, h3⟩ => by omega
  | k + 1, j, hj, ⟨m, h1, h2, h3⟩ => by
    by_cases he : powP A j = idP A.length
    · rw [ordF, if_pos he]
      exact iter_last (r19b h hv (by omega) (decide_eq_true he)) (by simp)
    · rw [ordF, if_neg he]
      have : j ≠ m := fun e => he (by rw [e]; exact h3)
      exact iter_normal (r19a h hv (by omega) (decide_eq_false he)) (l19 k (j + 1) (by omega) ⟨m, by omega, h2, h3⟩)
end
theorem call19 {A : List Int} (hA : A.length ≤ 1000) : call Try.cfg 19 [Is A] [] = some (.tu [I (ordL A).1, I (ordL A).2], []) := by
  refine call_step ?_
  have v1 := call23u hA
  cases hv : validL A with
  | false =>
    rw [hv] at v1
    have e : ordL A = (0, 1) := by simp [ordL, hv]
    rw [e]
    simp -implicitDefEqProofs (maxSteps := 1000000) (disch := omega) only [stepA, bodyA, Try.cfgO, Try.sh19, Try.sh23, Try.func19, Try.f19, push_cast, ↓dstAt_zero, ↓dstAt_succ, ↓arun_skip, ↓arun_region, ↓arun_seq, ↓arun_cond, ↓arun_block, ↓arun_loop, ↓arun_exit, ↓arun_ret, aops_nil, aops_cons, aops_cons_guard, ↓putA_some, ↓putA_none, ↓aop_move, ↓aop_assign, ↓aop_pick, ↓aop_alloc, ↓aop_box, ↓aop_build, ↓aop_buildSlice, ↓aop_load, ↓aop_store, ↓aop_nilCheck, ↓aop_binOp, ↓aop_unOp, ↓aop_convert, ↓aop_makeSlice, ↓aop_fieldAddr, ↓aop_field, ↓aop_indexAddr, ↓aop_index, ↓aop_lookup, ↓aop_mapUpdate, ↓aop_insert, ↓aop_extract, ↓aop_callB, ↓aop_callF, ↓aop_callT, ↓aop_makeFunc, ↓aop_makeMap, ↓aop_slice, ↓aevs_nil, ↓aevs_cons, ↓evP_nil, ↓evP_cons, ↓aevO_none, ↓aevO_some, ↓reduceIte, reduceCtorEq, Nat.reduceEqDiff, Nat.reduceAdd, Nat.reduceLT, Nat.reduceSub, Nat.reduceMul, Nat.reduceLeDiff, if_true, if_false, if_pos, if_neg, v1]
    try rfl
  | true =>
    rw [hv] at v1
    have h6 := valid_len hv
    have e : ordL A = ((ordF A 6 0 : Int) + 1, 0) := by simp [ordL, hv]
    rw [e]
    have hu := call31u (n := A.length) (by omega)
    have hi := idP_length A.length
    cases hl : loopOf 0 Try.f19 with
    | none => cases hl
    | some a =>
      have hH := l19 hl hv 6 0 rfl (by
        have := valid_all ord_all hv
        simp only [ordOk, List.any_eq_true, List.mem_range, decide_eq_true_eq] at this
        obtain ⟨m, h1, h2⟩ := this
        exact ⟨m, by omega, h1, h2⟩)
      cases hl
      have e0 : powP A 0 = A := rfl
      simp only [st19, Is, Int.natCast_zero, e0, hi, Int.zero_add] at hH
      simp -implicitDefEqProofs (maxSteps := 1000000) (disch := omega) only [stepA, bodyA, Try.cfgO, Try.sh19, Try.sh23, Try.sh31, Try.func19, Try.f19, push_cast, ↓dstAt_zero, ↓dstAt_succ, ↓arun_skip, ↓arun_region, ↓arun_seq, ↓arun_cond, ↓arun_block, ↓arun_loop, ↓arun_exit, ↓arun_ret, aops_nil, aops_cons, aops_cons_guard, ↓putA_some, ↓putA_none, ↓aop_move, ↓aop_assign, ↓aop_pick, ↓aop_alloc, ↓aop_box, ↓aop_build, ↓aop_buildSlice, ↓aop_load, ↓aop_store, ↓aop_nilCheck, ↓aop_binOp, ↓aop_unOp, ↓aop_convert, ↓aop_makeSlice, ↓aop_fieldAddr, ↓aop_field, ↓aop_indexAddr, ↓aop_index, ↓aop_lookup, ↓aop_mapUpdate, ↓aop_insert, ↓aop_extract, ↓aop_callB, ↓aop_callF, ↓aop_callT, ↓aop_makeFunc, ↓aop_makeMap, ↓aop_slice, ↓aevs_nil, ↓aevs_cons, ↓evP_nil, ↓evP_cons, ↓aevO_none, ↓aevO_some, ↓reduceIte, reduceCtorEq, Nat.reduceEqDiff, Nat.reduceAdd, Nat.reduceLT, Nat.reduceSub, Nat.reduceMul, Nat.reduceLeDiff, if_true, if_false, if_pos, if_neg, v1, hu, hH]
      try rfl
end Go.Proofs

/- group.IsGroup. -/
set_option linter.unusedVariables false
set_option linter.unusedSimpArgs false
set_option linter.unusedSectionVars false
namespace Go.Proofs
open Go.AI
set_option maxRecDepth 20000
set_option maxHeartbeats 2000000
def gt (L : List (List Int)) (i : Nat) : List Int := L.getD i []
def okG (L : List (List Int)) (i : Nat) : Bool := validL (gt L i) && decide ((gt L i).length = (gt L 0).length) && (decide (i = 0) || decide (lexC (gt L (i - 1)) (gt L i) < 0))
def allG (L : List (List Int)) (i : Nat) : Bool := (List.range' 0 L.length).all fun k => decide (mulP (gt L i) (gt L k) ∈ L)
def isG (L : List (List Int)) : Bool := (List.range' 0 L.length).all (okG L) && !decide (L = []) && decide (gt L 0 = idP (gt L 0).length) && (List.range' 0 L.length).all (allG L)
/-- The keys that are known behind i rounds. -/
def kn (L : List (List Int)) : Nat → List (List Int)
  | 0 => []
  | i + 1 => addK (kn L i) (gt L i)
theorem mem_kn {L : List (List Int)} {x : List Int} : ∀ i, x ∈ kn L i ↔ ∃ j, j < i ∧ x = gt L j
  | 0 => by simp [kn]
  | i + 1 => by
    rw [kn, mem_addK, mem_kn i]
    constructor
    · rintro (⟨j, h1, h2⟩ | h)
      · exact ⟨j, by omega, h2⟩
      · exact ⟨i, by omega, h⟩
    · rintro ⟨j, h1, h2⟩
      by_cases e : j = i
      · right; rw [← e]; exact h2
      · left; exact ⟨j, by omega, h2⟩
theorem gt_some {L : List (List Int)} {i : Nat} (h : i < L.length) : L[i]? = some (gt L i) := by simp [gt, h]
theorem mem_kn_all {L : List (List Int)} {x : List Int} : x ∈ kn L L.length ↔ x ∈ L := by
  rw [mem_kn]
  constructor
  · rintro ⟨j, h1, rfl⟩
    exact List.mem_of_getElem? (gt_some h1)
  · intro h
    obtain ⟨j, hj⟩ := List.mem_iff_getElem?.1 h
    have := lt_of_get hj
    rw [gt_some this] at hj
    cases hj
    exact ⟨j, this, rfl⟩
theorem call35u {A C : List Int} (hA : A.length ≤ 1000000) (hC : C.length ≤ 1000000) : call Try.cfg 35 [.sl false A.length (A.map I), .sl false C.length (C.map I)] [] = some (.v (.int .i64 (lexC A C)), []) := call35 hA hC
section
variable {a : Code} (h : loopOf 0 Try.f11 = some a) {L : List (List Int)} (hL : L.length ≤ 1000) (hs : ∀ x ∈ L, x.length ≤ 1000)
include h hL hs
def s11 (L ks : List (List Int)) (i : Nat) : St := ([(0, Iss L), (3, .mm 0), (11, Iss L), (12, I L.length), (13, I i)], [.map (ks.map mk6)])
theorem gt_len {i : Nat} (hi : i < L.length) : (gt L i).length ≤ 1000 := hs _ (List.mem_of_getElem? (gt_some hi))
theorem r11f {ks : List (List Int)} {i : Nat} (hi : i < L.length) (hok : okG L i = false) : roundA Try.cfg 11 iter (call Try.cfg) 0 a (s11 L ks i) = some (.ret, [(2, .v (.bool false))], [.map (ks.map mk6)]) := by
  have hx := gt_some hi
  have h0 := gt_some (L := L) (i := 0) (by omega)
  have l1 := gt_len h hL hs hi
  have l0 := gt_len h hL hs (i := 0) (by omega)
  have v1 := call23u l1
  cases h
  cases hv : validL (gt L i) with
  | false =>
    rw [hv] at v1
    generalize gt L i = x at *
    simp -implicitDefEqProofs (maxSteps := 1000000) (disch := omega) only [push_cast, ↓dstAt_zero, ↓dstAt_succ, ↓arun_skip, ↓arun_region, ↓arun_seq, ↓arun_cond, ↓arun_block, ↓arun_loop, ↓arun_exit, ↓arun_ret, aops_nil, aops_cons, aops_cons_guard, ↓putA_some, ↓putA_none, ↓aop_move, ↓aop_assign, ↓aop_pick, ↓aop_alloc, ↓aop_box, ↓aop_build, ↓aop_buildSlice, ↓aop_load, ↓aop_store, ↓aop_nilCheck, ↓aop_binOp, ↓aop_unOp, ↓aop_convert, ↓aop_makeSlice, ↓aop_fieldAddr, ↓aop_field, ↓aop_indexAddr, ↓aop_index, ↓aop_lookup, ↓aop_mapUpdate, ↓aop_insert, ↓aop_extract, ↓aop_callB, ↓aop_callF, ↓aop_callT, ↓aop_makeFunc, ↓aop_makeMap, ↓aop_slice, ↓aevs_nil, ↓aevs_cons, ↓evP_nil, ↓evP_cons, ↓aevO_none, ↓aevO_some, ↓reduceIte, reduceCtorEq, Nat.reduceEqDiff, Nat.reduceAdd, Nat.reduceLT, Nat.reduceSub, Nat.reduceMul, Nat.reduceLeDiff, if_true, if_false, if_pos, if_neg, s11, Iss, hx, v1]
  | true =>
    rw [hv] at v1
    by_cases hl : (gt L i).length = (gt L 0).length
    · have hi0 : i ≠ 0 := by
        rintro rfl
        simp [okG, hv] at hok
      obtain ⟨j, rfl⟩ : ∃ j, i = j + 1 := ⟨i - 1, by omega⟩
      have hlex : ¬ lexC (gt L j) (gt L (j + 1)) < 0 := by
        intro hlt
        simp [okG, hv, hlt] at hok
        exact hok hl
      have hp := gt_some (L := L) (i := j) (by omega)
      have lp := gt_len (a := _) rfl hL hs (i := j) (by omega)
      have h35 := call35u (A := gt L j) (C := gt L (j + 1)) (by omega) (by omega)
      generalize gt L (j + 1) = x at *
      generalize gt L j = p at *
      generalize gt L 0 = y at *
      generalize lexC p x = z at *
      simp -implicitDefEqProofs (maxSteps := 1000000) (disch := omega) only [push_cast, ↓dstAt_zero, ↓dstAt_succ, ↓arun_skip, ↓arun_region, ↓arun_seq, ↓arun_cond, ↓arun_block, ↓arun_loop, ↓arun_exit, ↓arun_ret, aops_nil, aops_cons, aops_cons_guard, ↓putA_some, ↓putA_none, ↓aop_move, ↓aop_assign, ↓aop_pick, ↓aop_alloc, ↓aop_box, ↓aop_build, ↓aop_buildSlice, ↓aop_load, ↓aop_store, ↓aop_nilCheck, ↓aop_binOp, ↓aop_unOp, ↓aop_convert, ↓aop_makeSlice, ↓aop_fieldAddr, ↓aop_field, ↓aop_indexAddr, ↓aop_index, ↓aop_lookup, ↓aop_mapUpdate, ↓aop_insert, ↓aop_extract, ↓aop_callB, ↓aop_callF, ↓aop_callT, ↓aop_makeFunc, ↓aop_makeMap, ↓aop_slice, ↓aevs_nil, ↓aevs_cons, ↓evP_nil, ↓evP_cons, ↓aevO_none, ↓aevO_some, ↓reduceIte, reduceCtorEq, Nat.reduceEqDiff, Nat.reduceAdd, Nat.reduceLT, Nat.reduceSub, Nat.reduceMul, Nat.reduceLeDiff, if_true, if_false, if_pos, if_neg, s11, Iss, hx, h0, hp, v1, h35, tn1, Int.add_sub_cancel]
    · generalize gt L i = x at *
      generalize gt L 0 = y at *
      simp -implicitDefEqProofs (maxSteps := 1000000) (disch := omega) only [push_cast, ↓dstAt_zero, ↓dstAt_succ, ↓arun_skip, ↓arun_region, ↓arun_seq, ↓arun_cond, ↓arun_block, ↓arun_loop, ↓arun_exit, ↓arun_ret, aops_nil, aops_cons, aops_cons_guard, ↓putA_some, ↓putA_none, ↓aop_move, ↓aop_assign, ↓aop_pick, ↓aop_alloc, ↓aop_box, ↓aop_build, ↓aop_buildSlice, ↓aop_load, ↓aop_store, ↓aop_nilCheck, ↓aop_binOp, ↓aop_unOp, ↓aop_convert, ↓aop_makeSlice, ↓aop_fieldAddr, ↓aop_field, ↓aop_indexAddr, ↓aop_index, ↓aop_lookup, ↓aop_mapUpdate, ↓aop_insert, ↓aop_extract, ↓aop_callB, ↓aop_callF, ↓aop_callT, ↓aop_makeFunc, ↓aop_makeMap, ↓aop_slice, ↓aevs_nil, ↓aevs_cons, ↓evP_nil, ↓evP_cons, ↓aevO_none, ↓aevO_some, ↓reduceIte, reduceCtorEq, Nat.reduceEqDiff, Nat.reduceAdd, Nat.reduceLT, Nat.reduceSub, Nat.reduceMul, Nat.reduceLeDiff, if_true, if_false, if_pos, if_neg, s11, Iss, hx, h0, v1]
theorem r11t {i : Nat} (hi : i < L.length) (hok : okG L i = true) (hks : ∀ K ∈ kn L i, K.length = (gt L i).length) : roundA Try.cfg 11 iter (call Try.cfg) 0 a (s11 L (kn L i) i) = some (.normal, s11 L (kn L (i + 1)) (i + 1)) := by
  have hx := gt_some hi
  have h0 := gt_some (L := L) (i := 0) (by omega)
  have l1 := gt_len h hL hs hi
  have v1 := call23u l1
  simp only [okG, Bool.and_eq_true, Bool.or_eq_true, decide_eq_true_eq] at hok
  obtain ⟨⟨hv, hl⟩, hlt⟩ := hok
  rw [hv] at v1
  have h6 := valid_len hv
  have h32 := call32 h6
  have hu := updA_key h6 hks
  have ho := keyOk_key h6
  rw [kn]
  generalize kn L i = ks at *
  generalize addK ks (gt L i) = ks' at *
  have hm : ∀ ks : List (List Int), (ks.map mk6).length = ks.length := fun ks => List.length_map ..
  cases h
  cases i with
  | zero =>
    generalize gt L 0 = x at *
    simp -implicitDefEqProofs (maxSteps := 1000000) (disch := omega) only [push_cast, ↓dstAt_zero, ↓dstAt_succ, ↓arun_skip, ↓arun_region, ↓arun_seq, ↓arun_cond, ↓arun_block, ↓arun_loop, ↓arun_exit, ↓arun_ret, aops_nil, aops_cons, aops_cons_guard, ↓putA_some, ↓putA_none, ↓aop_move, ↓aop_assign, ↓aop_pick, ↓aop_alloc, ↓aop_box, ↓aop_build, ↓aop_buildSlice, ↓aop_load, ↓aop_store, ↓aop_nilCheck, ↓aop_binOp, ↓aop_unOp, ↓aop_convert, ↓aop_makeSlice, ↓aop_fieldAddr, ↓aop_field, ↓aop_indexAddr, ↓aop_index, ↓aop_lookup, ↓aop_mapUpdate, ↓aop_insert, ↓aop_extract, ↓aop_callB, ↓aop_callF, ↓aop_callT, ↓aop_makeFunc, ↓aop_makeMap, ↓aop_slice, ↓aevs_nil, ↓aevs_cons, ↓evP_nil, ↓evP_cons, ↓aevO_none, ↓aevO_some, ↓reduceIte, reduceCtorEq, Nat.reduceEqDiff, Nat.reduceAdd, Nat.reduceLT, Nat.reduceSub, Nat.reduceMul, Nat.reduceLeDiff, if_true, if_false, if_pos, if_neg, s11, Iss, hx, v1, Int.natCast_zero, Int.lt_irrefl, h32, mapUpdateA, ho, hu]
    try rfl
  | succ j =>
    have hlex := hlt.resolve_left (by omega)
    rw [Nat.add_sub_cancel] at hlex
    have hp := gt_some (L := L) (i := j) (by omega)
    have lp := gt_len (a := _) rfl hL hs (i := j) (by omega)
    have h35 := call35u (A := gt L j) (C := gt L (j + 1)) (by omega) (by omega)
    generalize gt L (j + 1) = x at *
    generalize gt L j = p at *
    generalize gt L 0 = y at *
    generalize lexC p x = z at *
    simp -implicitDefEqProofs (maxSteps := 1000000) (disch := omega) only [push_cast, ↓dstAt_zero, ↓dstAt_succ, ↓arun_skip, ↓arun_region, ↓arun_seq, ↓arun_cond, ↓arun_block, ↓arun_loop, ↓arun_exit, ↓arun_ret, aops_nil, aops_cons, aops_cons_guard, ↓putA_some, ↓putA_none, ↓aop_move, ↓aop_assign, ↓aop_pick, ↓aop_alloc, ↓aop_box, ↓aop_build, ↓aop_buildSlice, ↓aop_load, ↓aop_store, ↓aop_nilCheck, ↓aop_binOp, ↓aop_unOp, ↓aop_convert, ↓aop_makeSlice, ↓aop_fieldAddr, ↓aop_field, ↓aop_indexAddr, ↓aop_index, ↓aop_lookup, ↓aop_mapUpdate, ↓aop_insert, ↓aop_extract, ↓aop_callB, ↓aop_callF, ↓aop_callT, ↓aop_makeFunc, ↓aop_makeMap, ↓aop_slice, ↓aevs_nil, ↓aevs_cons, ↓evP_nil, ↓evP_cons, ↓aevO_none, ↓aevO_some, ↓reduceIte, reduceCtorEq, Nat.reduceEqDiff, Nat.reduceAdd, Nat.reduceLT, Nat.reduceSub, Nat.reduceMul, Nat.reduceLeDiff, if_true, if_false, if_pos, if_neg, s11, Iss, hx, h0, hp, v1, h35, tn1, Int.add_sub_cancel, h32, mapUpdateA, ho, hu]
    try rfl
theorem r11e {ks : List (List Int)} : roundA Try.cfg 11 iter (call Try.cfg) 0 a (s11 L ks L.length) = some (.exit 0, [(0, Iss L), (3, .mm 0)], [.map (ks.map mk6)]) := by
  cases h
  simp -implicitDefEqProofs (maxSteps := 1000000) (disch := omega) only [push_cast, ↓dstAt_zero, ↓dstAt_succ, ↓arun_skip, ↓arun_region, ↓arun_seq, ↓arun_cond, ↓arun_block, ↓arun_loop, ↓arun_exit, ↓arun_ret, aops_nil, aops_cons, aops_cons_guard, ↓putA_some, ↓putA_none, ↓aop_move, ↓aop_assign, ↓aop_pick, ↓aop_alloc, ↓aop_box, ↓aop_build, ↓aop_buildSlice, ↓aop_load, ↓aop_store, ↓aop_nilCheck, ↓aop_binOp, ↓aop_unOp, ↓aop_convert, ↓aop_makeSlice, ↓aop_fieldAddr, ↓aop_field, ↓aop_indexAddr, ↓aop_index, ↓aop_lookup, ↓aop_mapUpdate, ↓aop_insert, ↓aop_extract, ↓aop_callB, ↓aop_callF, ↓aop_callT, ↓aop_makeFunc, ↓aop_makeMap, ↓aop_slice, ↓aevs_nil, ↓aevs_cons, ↓evP_nil, ↓evP_cons, ↓aevO_none, ↓aevO_some, ↓reduceIte, reduceCtorEq, Nat.reduceEqDiff, Nat.reduceAdd, Nat.reduceLT, Nat.reduceSub, Nat.reduceMul, Nat.reduceLeDiff, if_true, if_false, if_pos, if_neg, s11, Iss, Int.lt_irrefl]
end
end Go.Proofs

/- group.IsGroup: the second loops, the function. -/
set_option linter.unusedVariables false
set_option linter.unusedSimpArgs false
set_option linter.unusedSectionVars false
namespace Go.Proofs
open Go.AI
set_option maxRecDepth 20000
set_option maxHeartbeats 2000000
theorem ok_len {L : List (List Int)} {i : Nat} (h : okG L i = true) : validL (gt L i) = true ∧ (gt L i).length = (gt L 0).length := by
  simp only [okG, Bool.and_eq_true, decide_eq_true_eq] at h
  exact ⟨h.1.1, h.1.2⟩
section
variable {L : List (List Int)} (hL : L.length ≤ 1000) (hs : ∀ x ∈ L, x.length ≤ 1000)
include hL hs
theorem l11 {a : Code} (h : loopOf 0 Try.f11 = some a) : ∀ k i, i + k = L.length → (∀ j, j < i → okG L j = true) → ∃ H', iter (roundA Try.cfg 11 iter (call Try.cfg) 0 a) (s11 L (kn L i) i) = some (if (List.range' i k).all (okG L) then (.exit 0, [(0, Iss L), (3, .mm 0)], [.map ((kn L L.length).map mk6)]) else (.ret, [(2, .v (.bool false))], H'))
  | 0, i, hi, hj => by
    have : i = L.length := by omega
    rw [this]
    exact ⟨[], iter_last (r11e h hL hs) (by simp)⟩
  | k + 1, i, hi, hj => by
    simp only [List.range'_succ, List.all_cons]
    cases hq : okG L i with
    | false => exact ⟨_, by simp only [Bool.false_and, Bool.false_eq_true, if_false]; exact iter_last (r11f h hL hs (by omega) hq) (by simp)⟩
    | true =>
      obtain ⟨H', h1⟩ := l11 h k (i + 1) (by omega) (fun j hj' => by
        by_cases e : j = i
        · rw [e]; exact hq
        · exact hj j (by omega))
      refine ⟨H', ?_⟩
      simp only [Bool.true_and]
      refine iter_normal (r11t h hL hs (by omega) hq (fun K hK => ?_)) h1
      obtain ⟨j, g1, rfl⟩ := (mem_kn i).1 hK
      rw [(ok_len (hj j g1)).2, (ok_len hq).2]
section
variable (hok : ∀ j, j < L.length → okG L j = true) {ks : List (List Int)} (hks : ∀ x, x ∈ ks ↔ x ∈ L)
include hok hks
def s11b (L ks : List (List Int)) (i : Nat) : St := ([(0, Iss L), (3, .mm 0), (63, Iss L), (64, I L.length), (65, I i)], [.map (ks.map mk6)])
def s11c (L ks : List (List Int)) (i k : Nat) : St := ([(0, Iss L), (3, .mm 0), (7, Is (gt L i)), (63, Iss L), (64, I L.length), (65, I i), (69, Iss L), (70, I L.length), (71, I k)], [.map (ks.map mk6)])
theorem i11 {a : Code} (h : loopOf 4 Try.f11 = some a) {i k : Nat} (hi : i < L.length) (hk : k < L.length) : roundA Try.cfg 11 iter (call Try.cfg) 4 a (s11c L ks i k) = some (if decide (mulP (gt L i) (gt L k) ∈ L) = true then (.normal, s11c L ks i (k + 1)) else (.ret, [(2, .v (.bool false))], [.map (ks.map mk6)])) := by
  have hy := gt_some hk
  obtain ⟨vi, li⟩ := ok_len (hok i hi)
  obtain ⟨vk, lk⟩ := ok_len (hok k hk)
  have h6 := valid_len vi
  have h33 := call33u (A := gt L i) (C := gt L k) h6 (by omega) (fun j hj => by rw [show (gt L i).length = (gt L k).length by omega]; exact valid_range vk (by omega))
  have hlen := mulP_length (gt L i) (gt L k)
  have h32 := call32 (A := mulP (gt L i) (gt L k)) (by omega)
  rw [hlen] at h32
  have hf := findA_key (A := mulP (gt L i) (gt L k)) (by omega) (ks := ks) (fun K hK => by
    obtain ⟨j, hj⟩ := List.mem_iff_getElem?.1 ((hks K).1 hK)
    have hjl := lt_of_get hj
    rw [gt_some hjl] at hj
    cases hj
    rw [(ok_len (hok j hjl)).2, hlen, li])
  have ho := keyOk_key (A := mulP (gt L i) (gt L k)) (by omega)
  have hz : (mulP (gt L i) (gt L k) ∈ ks) ↔ (mulP (gt L i) (gt L k) ∈ L) := hks _
  cases h
  simp only [s11c]
  by_cases hm : mulP (gt L i) (gt L k) ∈ L
  · rw [if_pos (hz.2 hm)] at hf
    rw [if_pos (decide_eq_true hm)]
    generalize mulP (gt L i) (gt L k) = p at *
    generalize gt L i = x at *
    generalize gt L k = y at *
    simp -implicitDefEqProofs (maxSteps := 1000000) (disch := omega) only [push_cast, ↓dstAt_zero, ↓dstAt_succ, ↓arun_skip, ↓arun_region, ↓arun_seq, ↓arun_cond, ↓arun_block, ↓arun_loop, ↓arun_exit, ↓arun_ret, aops_nil, aops_cons, aops_cons_guard, ↓putA_some, ↓putA_none, ↓aop_move, ↓aop_assign, ↓aop_pick, ↓aop_alloc, ↓aop_box, ↓aop_build, ↓aop_buildSlice, ↓aop_load, ↓aop_store, ↓aop_nilCheck, ↓aop_binOp, ↓aop_unOp, ↓aop_convert, ↓aop_makeSlice, ↓aop_fieldAddr, ↓aop_field, ↓aop_indexAddr, ↓aop_index, ↓aop_lookup, ↓aop_mapUpdate, ↓aop_insert, ↓aop_extract, ↓aop_callB, ↓aop_callF, ↓aop_callT, ↓aop_makeFunc, ↓aop_makeMap, ↓aop_slice, ↓aevs_nil, ↓aevs_cons, ↓evP_nil, ↓evP_cons, ↓aevO_none, ↓aevO_some, ↓reduceIte, reduceCtorEq, Nat.reduceEqDiff, Nat.reduceAdd, Nat.reduceLT, Nat.reduceSub, Nat.reduceMul, Nat.reduceLeDiff, if_true, if_false, if_pos, if_neg, s11c, Iss, hy, h33, h32, lookupA, ho, hf]
    try rfl
  · rw [if_neg (fun e => hm (hz.1 e))] at hf
    rw [if_neg (by simpa using hm)]
    generalize mulP (gt L i) (gt L k) = p at *
    generalize gt L i = x at *
    generalize gt L k = y at *
    simp -implicitDefEqProofs (maxSteps := 1000000) (disch := omega) only [push_cast, ↓dstAt_zero, ↓dstAt_succ, ↓arun_skip, ↓arun_region, ↓arun_seq, ↓arun_cond, ↓arun_block, ↓arun_loop, ↓arun_exit, ↓arun_ret, aops_nil, aops_cons, aops_cons_guard, ↓putA_some, ↓putA_none, ↓aop_move, ↓aop_assign, ↓aop_pick, ↓aop_alloc, ↓aop_box, ↓aop_build, ↓aop_buildSlice, ↓aop_load, ↓aop_store, ↓aop_nilCheck, ↓aop_binOp, ↓aop_unOp, ↓aop_convert, ↓aop_makeSlice, ↓aop_fieldAddr, ↓aop_field, ↓aop_indexAddr, ↓aop_index, ↓aop_lookup, ↓aop_mapUpdate, ↓aop_insert, ↓aop_extract, ↓aop_callB, ↓aop_callF, ↓aop_callT, ↓aop_makeFunc, ↓aop_makeMap, ↓aop_slice, ↓aevs_nil, ↓aevs_cons, ↓evP_nil, ↓evP_cons, ↓aevO_none, ↓aevO_some, ↓reduceIte, reduceCtorEq, Nat.reduceEqDiff, Nat.reduceAdd, Nat.reduceLT, Nat.reduceSub, Nat.reduceMul, Nat.reduceLeDiff, if_true, if_false, if_pos, if_neg, s11c, Iss, hy, h33, h32, lookupA, ho, hf]
    try rfl
theorem i11e {a : Code} (h : loopOf 4 Try.f11 = some a) {i : Nat} : roundA Try.cfg 11 iter (call Try.cfg) 4 a (s11c L ks i L.length) = some (.exit 4, s11b L ks i) := by
  cases h
  simp -implicitDefEqProofs (maxSteps := 1000000) (disch := omega) only [push_cast, ↓dstAt_zero, ↓dstAt_succ, ↓arun_skip, ↓arun_region, ↓arun_seq, ↓arun_cond, ↓arun_block, ↓arun_loop, ↓arun_exit, ↓arun_ret, aops_nil, aops_cons, aops_cons_guard, ↓putA_some, ↓putA_none, ↓aop_move, ↓aop_assign, ↓aop_pick, ↓aop_alloc, ↓aop_box, ↓aop_build, ↓aop_buildSlice, ↓aop_load, ↓aop_store, ↓aop_nilCheck, ↓aop_binOp, ↓aop_unOp, ↓aop_convert, ↓aop_makeSlice, ↓aop_fieldAddr, ↓aop_field, ↓aop_indexAddr, ↓aop_index, ↓aop_lookup, ↓aop_mapUpdate, ↓aop_insert, ↓aop_extract, ↓aop_callB, ↓aop_callF, ↓aop_callT, ↓aop_makeFunc, ↓aop_makeMap, ↓aop_slice, ↓aevs_nil, ↓aevs_cons, ↓evP_nil, ↓evP_cons, ↓aevO_none, ↓aevO_some, ↓reduceIte, reduceCtorEq, Nat.reduceEqDiff, Nat.reduceAdd, Nat.reduceLT, Nat.reduceSub, Nat.reduceMul, Nat.reduceLeDiff, if_true, if_false, if_pos, if_neg, s11b, s11c, Iss, Int.lt_irrefl]
theorem inner11 {a : Code} (h : loopOf 4 Try.f11 = some a) {i : Nat} (hi : i < L.length) : iter (roundA Try.cfg 11 iter (call Try.cfg) 4 a) (s11c L ks i 0) = some (if allG L i then (.exit 4, s11b L ks i) else (.ret, [(2, .v (.bool false))], [.map (ks.map mk6)])) :=
  iter_all (S := fun k => s11c L ks i k) (q := fun k => decide (mulP (gt L i) (gt L k) ∈ L)) (fun k hk hq => by have := i11 hL hs hok hks h hi hk; rw [if_pos hq] at this; exact this)
    (fun k hk hq => by have := i11 hL hs hok hks h hi hk; rw [if_neg (by rw [hq]; simp)] at this; exact this) (i11e hL hs hok hks h) (by simp) (by simp) L.length 0 (by omega)
theorem o11 {a : Code} (h : loopOf 2 Try.f11 = some a) {i : Nat} (hi : i < L.length) : roundA Try.cfg 11 iter (call Try.cfg) 2 a (s11b L ks i) = some (if allG L i = true then (.normal, s11b L ks (i + 1)) else (.ret, [(2, .v (.bool false))], [.map (ks.map mk6)])) := by
  cases h4 : loopOf 4 Try.f11 with
  | none => cases h4
  | some a4 =>
    have hH := inner11 hL hs hok hks h4 hi
    have hx := gt_some hi
    cases h
    cases h4
    simp only [s11b, s11c, Is, Iss, Int.natCast_zero] at hH
    generalize gt L i = x at *
    cases hg : allG L i with
    | true =>
      rw [hg, if_pos rfl] at hH
      simp -implicitDefEqProofs (maxSteps := 1000000) (disch := omega) only [push_cast, ↓dstAt_zero, ↓dstAt_succ, ↓arun_skip, ↓arun_region, ↓arun_seq, ↓arun_cond, ↓arun_block, ↓arun_loop, ↓arun_exit, ↓arun_ret, aops_nil, aops_cons, aops_cons_guard, ↓putA_some, ↓putA_none, ↓aop_move, ↓aop_assign, ↓aop_pick, ↓aop_alloc, ↓aop_box, ↓aop_build, ↓aop_buildSlice, ↓aop_load, ↓aop_store, ↓aop_nilCheck, ↓aop_binOp, ↓aop_unOp, ↓aop_convert, ↓aop_makeSlice, ↓aop_fieldAddr, ↓aop_field, ↓aop_indexAddr, ↓aop_index, ↓aop_lookup, ↓aop_mapUpdate, ↓aop_insert, ↓aop_extract, ↓aop_callB, ↓aop_callF, ↓aop_callT, ↓aop_makeFunc, ↓aop_makeMap, ↓aop_slice, ↓aevs_nil, ↓aevs_cons, ↓evP_nil, ↓evP_cons, ↓aevO_none, ↓aevO_some, ↓reduceIte, reduceCtorEq, Nat.reduceEqDiff, Nat.reduceAdd, Nat.reduceLT, Nat.reduceSub, Nat.reduceMul, Nat.reduceLeDiff, if_true, if_false, if_pos, if_neg, s11b, Iss, hx, hH]
      try rfl
    | false =>
      rw [hg, if_neg (by simp)] at hH
      simp -implicitDefEqProofs (maxSteps := 1000000) (disch := omega) only [push_cast, ↓dstAt_zero, ↓dstAt_succ, ↓arun_skip, ↓arun_region, ↓arun_seq, ↓arun_cond, ↓arun_block, ↓arun_loop, ↓arun_exit, ↓arun_ret, aops_nil, aops_cons, aops_cons_guard, ↓putA_some, ↓putA_none, ↓aop_move, ↓aop_assign, ↓aop_pick, ↓aop_alloc, ↓aop_box, ↓aop_build, ↓aop_buildSlice, ↓aop_load, ↓aop_store, ↓aop_nilCheck, ↓aop_binOp, ↓aop_unOp, ↓aop_convert, ↓aop_makeSlice, ↓aop_fieldAddr, ↓aop_field, ↓aop_indexAddr, ↓aop_index, ↓aop_lookup, ↓aop_mapUpdate, ↓aop_insert, ↓aop_extract, ↓aop_callB, ↓aop_callF, ↓aop_callT, ↓aop_makeFunc, ↓aop_makeMap, ↓aop_slice, ↓aevs_nil, ↓aevs_cons, ↓evP_nil, ↓evP_cons, ↓aevO_none, ↓aevO_some, ↓reduceIte, reduceCtorEq, Nat.reduceEqDiff, Nat.reduceAdd, Nat.reduceLT, Nat.reduceSub, Nat.reduceMul, Nat.reduceLeDiff, if_true, if_false, if_pos, if_neg, s11b, Iss, hx, hH]
      try rfl
theorem o11e {a : Code} (h : loopOf 2 Try.f11 = some a) : roundA Try.cfg 11 iter (call Try.cfg) 2 a (s11b L ks L.length) = some (.exit 2, [], [.map (ks.map mk6)]) := by
  cases h
  simp -implicitDefEqProofs (maxSteps := 1000000) (disch := omega) only [push_cast, ↓dstAt_zero, ↓dstAt_succ, ↓arun_skip, ↓arun_region, ↓arun_seq, ↓arun_cond, ↓arun_block, ↓arun_loop, ↓arun_exit, ↓arun_ret, aops_nil, aops_cons, aops_cons_guard, ↓putA_some, ↓putA_none, ↓aop_move, ↓aop_assign, ↓aop_pick, ↓aop_alloc, ↓aop_box, ↓aop_build, ↓aop_buildSlice, ↓aop_load, ↓aop_store, ↓aop_nilCheck, ↓aop_binOp, ↓aop_unOp, ↓aop_convert, ↓aop_makeSlice, ↓aop_fieldAddr, ↓aop_field, ↓aop_indexAddr, ↓aop_index, ↓aop_lookup, ↓aop_mapUpdate, ↓aop_insert, ↓aop_extract, ↓aop_callB, ↓aop_callF, ↓aop_callT, ↓aop_makeFunc, ↓aop_makeMap, ↓aop_slice, ↓aevs_nil, ↓aevs_cons, ↓evP_nil, ↓evP_cons, ↓aevO_none, ↓aevO_some, ↓reduceIte, reduceCtorEq, Nat.reduceEqDiff, Nat.reduceAdd, Nat.reduceLT, Nat.reduceSub, Nat.reduceMul, Nat.reduceLeDiff, if_true, if_false, if_pos, if_neg, s11b, Iss, Int.lt_irrefl]
theorem outer11 {a : Code} (h : loopOf 2 Try.f11 = some a) : iter (roundA Try.cfg 11 iter (call Try.cfg) 2 a) (s11b L ks 0) = some (if (List.range' 0 L.length).all (allG L) then (.exit 2, [], [.map (ks.map mk6)]) else (.ret, [(2, .v (.bool false))], [.map (ks.map mk6)])) :=
  iter_all (S := fun i => s11b L ks i) (q := allG L) (fun i hi hq => by have := o11 hL hs hok hks h hi; rw [if_pos hq] at this; exact this)
    (fun i hi hq => by have := o11 hL hs hok hks h hi; rw [if_neg (by rw [hq]; simp)] at this; exact this) (o11e hL hs hok hks h) (by simp) (by simp) L.length 0 (by omega)
end
theorem call11 : call Try.cfg 11 [.sl false L.length (L.map Is)] [] = some (.v (.bool (isG L)), []) := by
  refine call_step ?_
  cases h0 : loopOf 0 Try.f11 with
  | none => cases h0
  | some a0 =>
  cases h2 : loopOf 2 Try.f11 with
  | none => cases h2
  | some a2 =>
    obtain ⟨H', hH⟩ := l11 hL hs h0 L.length 0 (by omega) (fun j hj => by omega)
    have h0' := h0
    cases h0
    simp only [s11, kn, Iss, List.map_nil, Int.natCast_zero] at hH
    cases hok : (List.range' 0 L.length).all (okG L) with
    | false =>
      have e : isG L = false := by simp [isG, hok]
      rw [hok, if_neg (by simp)] at hH
      rw [e]
      simp -implicitDefEqProofs (maxSteps := 1000000) (disch := omega) only [stepA, bodyA, Try.f11, push_cast, ↓dstAt_zero, ↓dstAt_succ, ↓arun_skip, ↓arun_region, ↓arun_seq, ↓arun_cond, ↓arun_block, ↓arun_loop, ↓arun_exit, ↓arun_ret, aops_nil, aops_cons, aops_cons_guard, ↓putA_some, ↓putA_none, ↓aop_move, ↓aop_assign, ↓aop_pick, ↓aop_alloc, ↓aop_box, ↓aop_build, ↓aop_buildSlice, ↓aop_load, ↓aop_store, ↓aop_nilCheck, ↓aop_binOp, ↓aop_unOp, ↓aop_convert, ↓aop_makeSlice, ↓aop_fieldAddr, ↓aop_field, ↓aop_indexAddr, ↓aop_index, ↓aop_lookup, ↓aop_mapUpdate, ↓aop_insert, ↓aop_extract, ↓aop_callB, ↓aop_callF, ↓aop_callT, ↓aop_makeFunc, ↓aop_makeMap, ↓aop_slice, ↓aevs_nil, ↓aevs_cons, ↓evP_nil, ↓evP_cons, ↓aevO_none, ↓aevO_some, ↓reduceIte, reduceCtorEq, Nat.reduceEqDiff, Nat.reduceAdd, Nat.reduceLT, Nat.reduceSub, Nat.reduceMul, Nat.reduceLeDiff, if_true, if_false, if_pos, if_neg, mapNewA, hH]
    | true =>
      rw [hok, if_pos rfl] at hH
      have hok' : ∀ j, j < L.length → okG L j = true := fun j hj => List.all_eq_true.1 hok j (by simp [List.mem_range']; omega)
      by_cases hne : L = []
      · subst hne
        have e : isG [] = false := by simp [isG]
        rw [e]
        simp only [List.length_nil, List.map_nil, Int.natCast_zero] at hH
        simp -implicitDefEqProofs (maxSteps := 1000000) (disch := omega) only [stepA, bodyA, Try.f11, push_cast, ↓dstAt_zero, ↓dstAt_succ, ↓arun_skip, ↓arun_region, ↓arun_seq, ↓arun_cond, ↓arun_block, ↓arun_loop, ↓arun_exit, ↓arun_ret, aops_nil, aops_cons, aops_cons_guard, ↓putA_some, ↓putA_none, ↓aop_move, ↓aop_assign, ↓aop_pick, ↓aop_alloc, ↓aop_box, ↓aop_build, ↓aop_buildSlice, ↓aop_load, ↓aop_store, ↓aop_nilCheck, ↓aop_binOp, ↓aop_unOp, ↓aop_convert, ↓aop_makeSlice, ↓aop_fieldAddr, ↓aop_field, ↓aop_indexAddr, ↓aop_index, ↓aop_lookup, ↓aop_mapUpdate, ↓aop_insert, ↓aop_extract, ↓aop_callB, ↓aop_callF, ↓aop_callT, ↓aop_makeFunc, ↓aop_makeMap, ↓aop_slice, ↓aevs_nil, ↓aevs_cons, ↓evP_nil, ↓evP_cons, ↓aevO_none, ↓aevO_some, ↓reduceIte, reduceCtorEq, Nat.reduceEqDiff, Nat.reduceAdd, Nat.reduceLT, Nat.reduceSub, Nat.reduceMul, Nat.reduceLeDiff, if_true, if_false, if_pos, if_neg, mapNewA, hH, Int.natCast_zero]
      · have hpos : 0 < L.length := List.length_pos_iff.2 hne
        have hx := gt_some hpos
        have hv := ok_len (hok' 0 hpos)
        have h6 := valid_len hv.1
        have h31 := call31u (n := (gt L 0).length) (by omega)
        have hil := idP_length (gt L 0).length
        have h37 := call37u (A := gt L 0) (C := idP (gt L 0).length) (by omega) (by omega)
        rw [hil] at h37
        have hO := outer11 hL hs hok' (ks := kn L L.length) (fun y => mem_kn_all) h2
        have eG : isG L = (decide (gt L 0 = idP (gt L 0).length) && (List.range' 0 L.length).all (allG L)) := by
          unfold isG
          rw [hok, decide_eq_false hne]
          simp
        rw [eG]
        cases h2
        simp only [s11b, Iss, Int.natCast_zero] at hO
        generalize kn L L.length = ks at *
        by_cases hid : gt L 0 = idP (gt L 0).length
        · rw [decide_eq_true hid] at h37 ⊢
          clear eG hid hv
          generalize gt L 0 = x at *
          cases hall : (List.range' 0 L.length).all (allG L) with
          | true =>
            rw [hall, if_pos rfl] at hO
            simp -implicitDefEqProofs (maxSteps := 1000000) (disch := omega) only [stepA, bodyA, Try.f11, push_cast, ↓dstAt_zero, ↓dstAt_succ, ↓arun_skip, ↓arun_region, ↓arun_seq, ↓arun_cond, ↓arun_block, ↓arun_loop, ↓arun_exit, ↓arun_ret, aops_nil, aops_cons, aops_cons_guard, ↓putA_some, ↓putA_none, ↓aop_move, ↓aop_assign, ↓aop_pick, ↓aop_alloc, ↓aop_box, ↓aop_build, ↓aop_buildSlice, ↓aop_load, ↓aop_store, ↓aop_nilCheck, ↓aop_binOp, ↓aop_unOp, ↓aop_convert, ↓aop_makeSlice, ↓aop_fieldAddr, ↓aop_field, ↓aop_indexAddr, ↓aop_index, ↓aop_lookup, ↓aop_mapUpdate, ↓aop_insert, ↓aop_extract, ↓aop_callB, ↓aop_callF, ↓aop_callT, ↓aop_makeFunc, ↓aop_makeMap, ↓aop_slice, ↓aevs_nil, ↓aevs_cons, ↓evP_nil, ↓evP_cons, ↓aevO_none, ↓aevO_some, ↓reduceIte, reduceCtorEq, Nat.reduceEqDiff, Nat.reduceAdd, Nat.reduceLT, Nat.reduceSub, Nat.reduceMul, Nat.reduceLeDiff, if_true, if_false, if_pos, if_neg, mapNewA, hH, hO, h31, h37, hx]
          | false =>
            rw [hall, if_neg (by simp)] at hO
            simp -implicitDefEqProofs (maxSteps := 1000000) (disch := omega) only [stepA, bodyA, Try.f11, push_cast, ↓dstAt_zero, ↓dstAt_succ, ↓arun_skip, ↓arun_region, ↓arun_seq, ↓arun_cond, ↓arun_block, ↓arun_loop, ↓arun_exit, ↓arun_ret, aops_nil, aops_cons, aops_cons_guard, ↓putA_some, ↓putA_none, ↓aop_move, ↓aop_assign, ↓aop_pick, ↓aop_alloc, ↓aop_box, ↓aop_build, ↓aop_buildSlice, ↓aop_load, ↓aop_store, ↓aop_nilCheck, ↓aop_binOp, ↓aop_unOp, ↓aop_convert, ↓aop_makeSlice, ↓aop_fieldAddr, ↓aop_field, ↓aop_indexAddr, ↓aop_index, ↓aop_lookup, ↓aop_mapUpdate, ↓aop_insert, ↓aop_extract, ↓aop_callB, ↓aop_callF, ↓aop_callT, ↓aop_makeFunc, ↓aop_makeMap, ↓aop_slice, ↓aevs_nil, ↓aevs_cons, ↓evP_nil, ↓evP_cons, ↓aevO_none, ↓aevO_some, ↓reduceIte, reduceCtorEq, Nat.reduceEqDiff, Nat.reduceAdd, Nat.reduceLT, Nat.reduceSub, Nat.reduceMul, Nat.reduceLeDiff, if_true, if_false, if_pos, if_neg, mapNewA, hH, hO, h31, h37, hx]
        · rw [decide_eq_false hid] at h37 ⊢
          clear eG hid hv
          generalize gt L 0 = x at *
          simp -implicitDefEqProofs (maxSteps := 1000000) (disch := omega) only [stepA, bodyA, Try.f11, push_cast, ↓dstAt_zero, ↓dstAt_succ, ↓arun_skip, ↓arun_region, ↓arun_seq, ↓arun_cond, ↓arun_block, ↓arun_loop, ↓arun_exit, ↓arun_ret, aops_nil, aops_cons, aops_cons_guard, ↓putA_some, ↓putA_none, ↓aop_move, ↓aop_assign, ↓aop_pick, ↓aop_alloc, ↓aop_box, ↓aop_build, ↓aop_buildSlice, ↓aop_load, ↓aop_store, ↓aop_nilCheck, ↓aop_binOp, ↓aop_unOp, ↓aop_convert, ↓aop_makeSlice, ↓aop_fieldAddr, ↓aop_field, ↓aop_indexAddr, ↓aop_index, ↓aop_lookup, ↓aop_mapUpdate, ↓aop_insert, ↓aop_extract, ↓aop_callB, ↓aop_callF, ↓aop_callT, ↓aop_makeFunc, ↓aop_makeMap, ↓aop_slice, ↓aevs_nil, ↓aevs_cons, ↓evP_nil, ↓evP_cons, ↓aevO_none, ↓aevO_some, ↓reduceIte, reduceCtorEq, Nat.reduceEqDiff, Nat.reduceAdd, Nat.reduceLT, Nat.reduceSub, Nat.reduceMul, Nat.reduceLeDiff, if_true, if_false, if_pos, if_neg, mapNewA, hH, h31, h37, hx, Bool.false_and]
end
end Go.Proofs

/- place. -/
set_option linter.unusedVariables false
set_option linter.unusedSimpArgs false
set_option linter.unusedSectionVars false
namespace Go.Proofs
open Go.AI
set_option maxRecDepth 20000
/-- Binary search. -/
def binS (L : List (List Int)) (b : List Int) : Nat → Nat → Nat → Nat
  | 0, lo, _ => lo
  | f + 1, lo, hi => if lo < hi then (if ltL (L.getD ((lo + hi) / 2) []) b then binS L b f ((lo + hi) / 2 + 1) hi else binS L b f lo ((lo + hi) / 2)) else lo
theorem binS_le {L : List (List Int)} {b : List Int} : ∀ (f lo hi : Nat), lo ≤ hi → lo ≤ binS L b f lo hi ∧ binS L b f lo hi ≤ hi
  | 0, lo, hi, h => by simp [binS, h]
  | f + 1, lo, hi, h => by
    rw [binS]
    split
    · split
      · have := binS_le (L := L) (b := b) f ((lo + hi) / 2 + 1) hi (by omega)
        omega
      · have := binS_le (L := L) (b := b) f lo ((lo + hi) / 2) (by omega)
        omega
    · omega
section
variable {a : Code} (h : loopOf 0 Try.f40 = some a) {L : List (List Int)} {b : List Int} (hL : L.length ≤ 1000000) (hs : ∀ x ∈ L, x.length ≤ 1000000) (hb : b.length ≤ 1000000) {lo hi : Nat}
include h hL hs hb
def st40 (L : List (List Int)) (b : List Int) (lo hi : Nat) : St := ([(0, Iss L), (1, Is b), (6, I lo), (7, I hi)], [])
theorem r40a (hlt : lo < hi) (hhi : hi ≤ L.length) (hc : ltL (L.getD ((lo + hi) / 2) []) b = true) : roundA Try.cfg 40 iter (call Try.cfg) 0 a (st40 L b lo hi) = some (.normal, st40 L b ((lo + hi) / 2 + 1) hi) := by
  cases h
  have hm : (lo + hi) / 2 < L.length := by omega
  have hx : L[(lo + hi) / 2]? = some (L.getD ((lo + hi) / 2) []) := by simp [hm]
  have e2 : Int.tdiv ((lo : Int) + hi) 2 = (((lo + hi) / 2 : Nat) : Int) := by rw [Int.tdiv_eq_ediv_of_nonneg (by omega)]; omega
  have hlen : (L.getD ((lo + hi) / 2) []).length ≤ 1000000 := hs _ (List.mem_of_getElem? hx)
  have h39 := call39 (A := L.getD ((lo + hi) / 2) []) (C := b) hlen hb
  rw [hc] at h39
  generalize L.getD ((lo + hi) / 2) [] = x at *
  generalize (lo + hi) / 2 = m at *
  simp -implicitDefEqProofs (disch := omega) only [push_cast, ↓dstAt_zero, ↓dstAt_succ, ↓arun_skip, ↓arun_region, ↓arun_seq, ↓arun_cond, ↓arun_block, ↓arun_loop, ↓arun_exit, ↓arun_ret, aops_nil, aops_cons, aops_cons_guard, ↓putA_some, ↓putA_none, ↓aop_move, ↓aop_assign, ↓aop_pick, ↓aop_alloc, ↓aop_box, ↓aop_build, ↓aop_buildSlice, ↓aop_load, ↓aop_store, ↓aop_nilCheck, ↓aop_binOp, ↓aop_unOp, ↓aop_convert, ↓aop_makeSlice, ↓aop_fieldAddr, ↓aop_field, ↓aop_indexAddr, ↓aop_index, ↓aop_lookup, ↓aop_mapUpdate, ↓aop_insert, ↓aop_extract, ↓aop_callB, ↓aop_callF, ↓aop_callT, ↓aop_makeFunc, ↓aop_makeMap, ↓aop_slice, ↓aevs_nil, ↓aevs_cons, ↓evP_nil, ↓evP_cons, ↓aevO_none, ↓aevO_some, ↓reduceIte, reduceCtorEq, Nat.reduceEqDiff, Nat.reduceAdd, Nat.reduceLT, Nat.reduceSub, Nat.reduceMul, Nat.reduceLeDiff, if_true, if_false, if_pos, if_neg, Try.sh39, st40, Iss, hx, h39, abin_quo, e2]
  try rfl
theorem r40b (hlt : lo < hi) (hhi : hi ≤ L.length) (hc : ltL (L.getD ((lo + hi) / 2) []) b = false) : roundA Try.cfg 40 iter (call Try.cfg) 0 a (st40 L b lo hi) = some (.normal, st40 L b lo ((lo + hi) / 2)) := by
  cases h
  have hm : (lo + hi) / 2 < L.length := by omega
  have hx : L[(lo + hi) / 2]? = some (L.getD ((lo + hi) / 2) []) := by simp [hm]
  have e2 : Int.tdiv ((lo : Int) + hi) 2 = (((lo + hi) / 2 : Nat) : Int) := by rw [Int.tdiv_eq_ediv_of_nonneg (by omega)]; omega
  have hlen : (L.getD ((lo + hi) / 2) []).length ≤ 1000000 := hs _ (List.mem_of_getElem? hx)
  have h39 := call39 (A := L.getD ((lo + hi) / 2) []) (C := b) hlen hb
  rw [hc] at h39
  generalize L.getD ((lo + hi) / 2) [] = x at *
  generalize (lo + hi) / 2 = m at *
  simp -implicitDefEqProofs (disch := omega) only [push_cast, ↓dstAt_zero, ↓dstAt_succ, ↓arun_skip, ↓arun_region, ↓arun_seq, ↓arun_cond, ↓arun_block, ↓arun_loop, ↓arun_exit, ↓arun_ret, aops_nil, aops_cons, aops_cons_guard, ↓putA_some, ↓putA_none, ↓aop_move, ↓aop_assign, ↓aop_pick, ↓aop_alloc, ↓aop_box, ↓aop_build, ↓aop_buildSlice, ↓aop_load, ↓aop_store, ↓aop_nilCheck, ↓aop_binOp, ↓aop_unOp, ↓aop_convert, ↓aop_makeSlice, ↓aop_fieldAddr, ↓aop_field, ↓aop_indexAddr, ↓aop_index, ↓aop_lookup, ↓aop_mapUpdate, ↓aop_insert, ↓aop_extract, ↓aop_callB, ↓aop_callF, ↓aop_callT, ↓aop_makeFunc, ↓aop_makeMap, ↓aop_slice, ↓aevs_nil, ↓aevs_cons, ↓evP_nil, ↓evP_cons, ↓aevO_none, ↓aevO_some, ↓reduceIte, reduceCtorEq, Nat.reduceEqDiff, Nat.reduceAdd, Nat.reduceLT, Nat.reduceSub, Nat.reduceMul, Nat.reduceLeDiff, if_true, if_false, if_pos, if_neg, Try.sh39, st40, Iss, hx, h39, abin_quo, e2]
theorem r40c (hlt : ¬ lo < hi) : roundA Try.cfg 40 iter (call Try.cfg) 0 a (st40 L b lo hi) = some (.exit 0, [(0, Iss L), (1, Is b), (6, I lo)], []) := by
  cases h
  simp -implicitDefEqProofs (disch := omega) only [push_cast, ↓dstAt_zero, ↓dstAt_succ, ↓arun_skip, ↓arun_region, ↓arun_seq, ↓arun_cond, ↓arun_block, ↓arun_loop, ↓arun_exit, ↓arun_ret, aops_nil, aops_cons, aops_cons_guard, ↓putA_some, ↓putA_none, ↓aop_move, ↓aop_assign, ↓aop_pick, ↓aop_alloc, ↓aop_box, ↓aop_build, ↓aop_buildSlice, ↓aop_load, ↓aop_store, ↓aop_nilCheck, ↓aop_binOp, ↓aop_unOp, ↓aop_convert, ↓aop_makeSlice, ↓aop_fieldAddr, ↓aop_field, ↓aop_indexAddr, ↓aop_index, ↓aop_lookup, ↓aop_mapUpdate, ↓aop_insert, ↓aop_extract, ↓aop_callB, ↓aop_callF, ↓aop_callT, ↓aop_makeFunc, ↓aop_makeMap, ↓aop_slice, ↓aevs_nil, ↓aevs_cons, ↓evP_nil, ↓evP_cons, ↓aevO_none, ↓aevO_some, ↓reduceIte, reduceCtorEq, Nat.reduceEqDiff, Nat.reduceAdd, Nat.reduceLT, Nat.reduceSub, Nat.reduceMul, Nat.reduceLeDiff, if_true, if_false, if_pos, if_neg, st40, Iss]
theorem l40 : ∀ (f lo hi : Nat), hi - lo ≤ f → hi ≤ L.length → iter (roundA Try.cfg 40 iter (call Try.cfg) 0 a) (st40 L b lo hi) = some (.exit 0, [(0, Iss L), (1, Is b), (6, I (binS L b f lo hi))], [])
  | 0, lo, hi, hf, hhi => iter_last (r40c h hL hs hb (by omega)) (by simp)
  | f + 1, lo, hi, hf, hhi => by
    rw [binS]
    by_cases hlt : lo < hi
    · rw [if_pos hlt]
      cases hc : ltL (L.getD ((lo + hi) / 2) []) b with
      | true =>
        rw [if_pos rfl]
        exact iter_normal (r40a h hL hs hb hlt hhi hc) (l40 f _ _ (by omega) hhi)
      | false =>
        rw [if_neg (by simp)]
        exact iter_normal (r40b h hL hs hb hlt hhi hc) (l40 f _ _ (by omega) (by omega))
    · rw [if_neg hlt]
      exact iter_last (r40c h hL hs hb hlt) (by simp)
end
def placeL (L : List (List Int)) (b : List Int) : Nat := binS L b L.length 0 L.length
theorem placeL_le (L : List (List Int)) (b : List Int) : placeL L b ≤ L.length := (binS_le _ _ _ (Nat.zero_le _)).2
theorem call40 {L : List (List Int)} {b : List Int} (hL : L.length ≤ 1000000) (hs : ∀ x ∈ L, x.length ≤ 1000000) (hb : b.length ≤ 1000000) : call Try.cfg 40 [.sl false L.length (L.map Is), .sl false b.length (b.map I)] [] = some (.tu [.v (.int .i64 (placeL L b)), .v (.bool (decide (L[placeL L b]? = some b)))], []) := by
  refine call_step ?_
  cases hl : loopOf 0 Try.f40 with
  | none => cases hl
  | some a =>
    have hH := l40 hl hL hs hb L.length 0 L.length (by omega) (Nat.le_refl _)
    cases hl
    have hle := placeL_le L b
    rw [show binS L b L.length 0 L.length = placeL L b from rfl] at hH
    simp only [st40, Is, Iss, Int.natCast_zero] at hH
    generalize placeL L b = k at *
    by_cases hk : k < L.length
    · have hx : L[k]? = some (L.getD k []) := by simp [hk]
      have hlen : (L.getD k []).length ≤ 1000000 := hs _ (List.mem_of_getElem? hx)
      have h37 := call37 (A := L.getD k []) (C := b) hlen hb
      have e : decide (L[k]? = some b) = decide (L.getD k [] = b) := by rw [hx]; simp only [Option.some.injEq]
      rw [e]
      simp only [Is] at h37
      generalize L.getD k [] = x at *
      simp -implicitDefEqProofs (disch := omega) only [stepA, bodyA, Try.cfgO, Try.sh40, Try.sh37, Try.func40, Try.f40, push_cast, ↓dstAt_zero, ↓dstAt_succ, ↓arun_skip, ↓arun_region, ↓arun_seq, ↓arun_cond, ↓arun_block, ↓arun_loop, ↓arun_exit, ↓arun_ret, aops_nil, aops_cons, aops_cons_guard, ↓putA_some, ↓putA_none, ↓aop_move, ↓aop_assign, ↓aop_pick, ↓aop_alloc, ↓aop_box, ↓aop_build, ↓aop_buildSlice, ↓aop_load, ↓aop_store, ↓aop_nilCheck, ↓aop_binOp, ↓aop_unOp, ↓aop_convert, ↓aop_makeSlice, ↓aop_fieldAddr, ↓aop_field, ↓aop_indexAddr, ↓aop_index, ↓aop_lookup, ↓aop_mapUpdate, ↓aop_insert, ↓aop_extract, ↓aop_callB, ↓aop_callF, ↓aop_callT, ↓aop_makeFunc, ↓aop_makeMap, ↓aop_slice, ↓aevs_nil, ↓aevs_cons, ↓evP_nil, ↓evP_cons, ↓aevO_none, ↓aevO_some, ↓reduceIte, reduceCtorEq, Nat.reduceEqDiff, Nat.reduceAdd, Nat.reduceLT, Nat.reduceSub, Nat.reduceMul, Nat.reduceLeDiff, if_true, if_false, if_pos, if_neg, hH, hx, h37]
    · have e : decide (L[k]? = some b) = false := by
        have : L[k]? = none := by simp; omega
        rw [this]; rfl
      rw [e]
      simp -implicitDefEqProofs (disch := omega) only [stepA, bodyA, Try.cfgO, Try.sh40, Try.func40, Try.f40, push_cast, ↓dstAt_zero, ↓dstAt_succ, ↓arun_skip, ↓arun_region, ↓arun_seq, ↓arun_cond, ↓arun_block, ↓arun_loop, ↓arun_exit, ↓arun_ret, aops_nil, aops_cons, aops_cons_guard, ↓putA_some, ↓putA_none, ↓aop_move, ↓aop_assign, ↓aop_pick, ↓aop_alloc, ↓aop_box, ↓aop_build, ↓aop_buildSlice, ↓aop_load, ↓aop_store, ↓aop_nilCheck, ↓aop_binOp, ↓aop_unOp, ↓aop_convert, ↓aop_makeSlice, ↓aop_fieldAddr, ↓aop_field, ↓aop_indexAddr, ↓aop_index, ↓aop_lookup, ↓aop_mapUpdate, ↓aop_insert, ↓aop_extract, ↓aop_callB, ↓aop_callF, ↓aop_callT, ↓aop_makeFunc, ↓aop_makeMap, ↓aop_slice, ↓aevs_nil, ↓aevs_cons, ↓evP_nil, ↓evP_cons, ↓aevO_none, ↓aevO_some, ↓reduceIte, reduceCtorEq, Nat.reduceEqDiff, Nat.reduceAdd, Nat.reduceLT, Nat.reduceSub, Nat.reduceMul, Nat.reduceLeDiff, if_true, if_false, if_pos, if_neg, hH]
end Go.Proofs

/- ref.IsGroup. -/
set_option linter.unusedVariables false
set_option linter.unusedSimpArgs false
set_option linter.unusedSectionVars false
namespace Go.Proofs
open Go.AI
set_option maxRecDepth 20000
set_option maxHeartbeats 2000000
theorem _root_.Go.AI.Cmp.lt_trans {α : Type} {c : α → α → Int} (hC : Cmp c) {x y z : α} (h : c x y < 0) (h' : c y z < 0) : c x z < 0 := by
  rcases Int.lt_or_le (c x z) 0 with h1 | h1
  · exact h1
  · exact absurd h' (hC.tr z x y (by omega) (hC.asym _ _ h))
/-- Strictly ascending. -/
def Asc (L : List (List Int)) : Prop := ∀ i j, i < j → j < L.length → lexC (gt L i) (gt L j) < 0
theorem asc_of {L : List (List Int)} (h : ∀ i, i + 1 < L.length → lexC (gt L i) (gt L (i + 1)) < 0) : Asc L := by
  intro i j hij hj
  induction j with
  | zero => omega
  | succ j ih =>
    have h1 := h j hj
    by_cases e : i = j
    · rw [e]; exact h1
    · exact lex_cmp.lt_trans (ih (by omega) (by omega)) h1
theorem binS_spec {L : List (List Int)} {b : List Int} (hA : Asc L) : ∀ (f lo hi : Nat), hi - lo ≤ f → lo ≤ hi → hi ≤ L.length → (∀ j, j < lo → ltL (gt L j) b = true) → (∀ j, hi ≤ j → j < L.length → ltL (gt L j) b = false) →
    (∀ j, j < binS L b f lo hi → ltL (gt L j) b = true) ∧ (∀ j, binS L b f lo hi ≤ j → j < L.length → ltL (gt L j) b = false)
  | 0, lo, hi, hf, h1, h2, h3, h4 => by
    have : lo = hi := by omega
    rw [binS]
    exact ⟨h3, by rw [this]; exact h4⟩
  | f + 1, lo, hi, hf, h1, h2, h3, h4 => by
    rw [binS]
    by_cases hlt : lo < hi
    · rw [if_pos hlt]
      have hm1 : lo ≤ (lo + hi) / 2 := by omega
      have hm2 : (lo + hi) / 2 < hi := by omega
      generalize (lo + hi) / 2 = m at *
      have e : L.getD m [] = gt L m := rfl
      rw [e]
      cases hc : ltL (gt L m) b with
      | true =>
        rw [if_pos rfl]
        refine binS_spec hA f (m + 1) hi (by omega) (by omega) h2 (fun j hj => ?_) h4
        by_cases ej : j = m
        · rw [ej]; exact hc
        · have := hA j m (by omega) (by omega)
          rw [ltL_iff] at hc ⊢
          exact lex_cmp.lt_trans this hc
      | false =>
        rw [if_neg (by simp)]
        refine binS_spec hA f lo m (by omega) (by omega) (by omega) h3 (fun j hj hjl => ?_)
        by_cases ej : j = m
        · rw [ej]; exact hc
        · have h5 := hA m j (by omega) hjl
          cases hj' : ltL (gt L j) b with
          | false => rfl
          | true =>
            rw [ltL_iff] at hj'
            have := lex_cmp.lt_trans h5 hj'
            rw [← ltL_iff, hc] at this
            cases this
    · rw [if_neg hlt]
      have : lo = hi := by omega
      exact ⟨h3, by rw [this]; exact h4⟩
theorem place_spec {L : List (List Int)} {b : List Int} (hA : Asc L) : (∀ j, j < placeL L b → ltL (gt L j) b = true) ∧ (∀ j, placeL L b ≤ j → j < L.length → ltL (gt L j) b = false) :=
  binS_spec hA L.length 0 L.length (by omega) (Nat.zero_le _) (Nat.le_refl _) (fun j hj => by omega) (fun j h1 h2 => by omega)
theorem ltL_self (b : List Int) : ltL b b = false := by
  cases h : ltL b b with
  | false => rfl
  | true => rw [ltL_iff, lexC_self] at h; omega
theorem place_mem {L : List (List Int)} {b : List Int} (hA : Asc L) : (L[placeL L b]? = some b) ↔ b ∈ L := by
  constructor
  · exact List.mem_of_getElem?
  · intro h
    obtain ⟨j, hj⟩ := List.mem_iff_getElem?.1 h
    have hjl := lt_of_get hj
    rw [gt_some hjl] at hj
    cases hj
    obtain ⟨h1, h2⟩ := place_spec (b := gt L j) hA
    have hge : placeL L (gt L j) ≤ j := by
      rcases Nat.lt_or_ge j (placeL L (gt L j)) with hlt | hge
      · have := h1 j hlt
        rw [ltL_self] at this
        cases this
      · exact hge
    have hlt : placeL L (gt L j) < L.length := by omega
    by_cases e : placeL L (gt L j) = j
    · have e2 := gt_some hjl
      rw [e]
      exact e2
    · have h3 := hA _ j (show placeL L (gt L j) < j by omega) hjl
      have h4 := h2 _ (Nat.le_refl _) hlt
      rw [← ltL_iff, h4] at h3
      cases h3
section
variable {L : List (List Int)} (hL : L.length ≤ 720) (hs : ∀ x ∈ L, x.length ≤ 1000)
include hL hs
def s12 (L : List (List Int)) (i : Nat) : St := ([(0, Iss L), (3, I i)], [])
theorem r12 {a : Code} (h : loopOf 0 Try.f12 = some a) {j : Nat} (hi : j + 1 < L.length) : roundA Try.cfg 12 iter (call Try.cfg) 0 a (s12 L (j + 1)) = some (if okG L (j + 1) = true then (.normal, s12 L (j + 1 + 1)) else (.ret, [(2, .v (.bool false))], [])) := by
  have hg := fun i (h : i < L.length) => hs _ (List.mem_of_getElem? (gt_some h))
  have hx := gt_some hi
  have h0 := gt_some (L := L) (i := 0) (by omega)
  have hp := gt_some (L := L) (i := j) (by omega)
  have l1 := hg _ hi
  have lp := hg j (by omega)
  have v1 := call24u l1
  cases h
  cases hv : validL (gt L (j + 1)) with
  | false =>
    rw [hv] at v1
    have e : okG L (j + 1) = false := by simp [okG, hv]
    rw [e, if_neg (by simp)]
    generalize gt L (j + 1) = x at *
    simp -implicitDefEqProofs (maxSteps := 1000000) (disch := omega) only [push_cast, ↓dstAt_zero, ↓dstAt_succ, ↓arun_skip, ↓arun_region, ↓arun_seq, ↓arun_cond, ↓arun_block, ↓arun_loop, ↓arun_exit, ↓arun_ret, aops_nil, aops_cons, aops_cons_guard, ↓putA_some, ↓putA_none, ↓aop_move, ↓aop_assign, ↓aop_pick, ↓aop_alloc, ↓aop_box, ↓aop_build, ↓aop_buildSlice, ↓aop_load, ↓aop_store, ↓aop_nilCheck, ↓aop_binOp, ↓aop_unOp, ↓aop_convert, ↓aop_makeSlice, ↓aop_fieldAddr, ↓aop_field, ↓aop_indexAddr, ↓aop_index, ↓aop_lookup, ↓aop_mapUpdate, ↓aop_insert, ↓aop_extract, ↓aop_callB, ↓aop_callF, ↓aop_callT, ↓aop_makeFunc, ↓aop_makeMap, ↓aop_slice, ↓aevs_nil, ↓aevs_cons, ↓evP_nil, ↓evP_cons, ↓aevO_none, ↓aevO_some, ↓reduceIte, reduceCtorEq, Nat.reduceEqDiff, Nat.reduceAdd, Nat.reduceLT, Nat.reduceSub, Nat.reduceMul, Nat.reduceLeDiff, if_true, if_false, if_pos, if_neg, s12, Iss, hx, v1, tn1]
  | true =>
    rw [hv] at v1
    by_cases hl : (gt L (j + 1)).length = (gt L 0).length
    · have h39 := call39 (A := gt L j) (C := gt L (j + 1)) (by omega) (by omega)
      have e : okG L (j + 1) = ltL (gt L j) (gt L (j + 1)) := by simp [okG, hv, hl, ltL]
      rw [e]
      cases hlt : ltL (gt L j) (gt L (j + 1)) with
      | true =>
        rw [hlt] at h39
        rw [if_pos rfl]
        generalize gt L (j + 1) = x at *
        generalize gt L j = p at *
        generalize gt L 0 = y at *
        simp -implicitDefEqProofs (maxSteps := 1000000) (disch := omega) only [push_cast, ↓dstAt_zero, ↓dstAt_succ, ↓arun_skip, ↓arun_region, ↓arun_seq, ↓arun_cond, ↓arun_block, ↓arun_loop, ↓arun_exit, ↓arun_ret, aops_nil, aops_cons, aops_cons_guard, ↓putA_some, ↓putA_none, ↓aop_move, ↓aop_assign, ↓aop_pick, ↓aop_alloc, ↓aop_box, ↓aop_build, ↓aop_buildSlice, ↓aop_load, ↓aop_store, ↓aop_nilCheck, ↓aop_binOp, ↓aop_unOp, ↓aop_convert, ↓aop_makeSlice, ↓aop_fieldAddr, ↓aop_field, ↓aop_indexAddr, ↓aop_index, ↓aop_lookup, ↓aop_mapUpdate, ↓aop_insert, ↓aop_extract, ↓aop_callB, ↓aop_callF, ↓aop_callT, ↓aop_makeFunc, ↓aop_makeMap, ↓aop_slice, ↓aevs_nil, ↓aevs_cons, ↓evP_nil, ↓evP_cons, ↓aevO_none, ↓aevO_some, ↓reduceIte, reduceCtorEq, Nat.reduceEqDiff, Nat.reduceAdd, Nat.reduceLT, Nat.reduceSub, Nat.reduceMul, Nat.reduceLeDiff, if_true, if_false, if_pos, if_neg, s12, Iss, hx, h0, hp, v1, h39, tn1, Int.add_sub_cancel]
      | false =>
        rw [hlt] at h39
        rw [if_neg (by simp)]
        generalize gt L (j + 1) = x at *
        generalize gt L j = p at *
        generalize gt L 0 = y at *
        simp -implicitDefEqProofs (maxSteps := 1000000) (disch := omega) only [push_cast, ↓dstAt_zero, ↓dstAt_succ, ↓arun_skip, ↓arun_region, ↓arun_seq, ↓arun_cond, ↓arun_block, ↓arun_loop, ↓arun_exit, ↓arun_ret, aops_nil, aops_cons, aops_cons_guard, ↓putA_some, ↓putA_none, ↓aop_move, ↓aop_assign, ↓aop_pick, ↓aop_alloc, ↓aop_box, ↓aop_build, ↓aop_buildSlice, ↓aop_load, ↓aop_store, ↓aop_nilCheck, ↓aop_binOp, ↓aop_unOp, ↓aop_convert, ↓aop_makeSlice, ↓aop_fieldAddr, ↓aop_field, ↓aop_indexAddr, ↓aop_index, ↓aop_lookup, ↓aop_mapUpdate, ↓aop_insert, ↓aop_extract, ↓aop_callB, ↓aop_callF, ↓aop_callT, ↓aop_makeFunc, ↓aop_makeMap, ↓aop_slice, ↓aevs_nil, ↓aevs_cons, ↓evP_nil, ↓evP_cons, ↓aevO_none, ↓aevO_some, ↓reduceIte, reduceCtorEq, Nat.reduceEqDiff, Nat.reduceAdd, Nat.reduceLT, Nat.reduceSub, Nat.reduceMul, Nat.reduceLeDiff, if_true, if_false, if_pos, if_neg, s12, Iss, hx, h0, hp, v1, h39, tn1, Int.add_sub_cancel]
    · have e : okG L (j + 1) = false := by simp [okG, hl]
      rw [e, if_neg (by simp)]
      generalize gt L (j + 1) = x at *
      generalize gt L 0 = y at *
      simp -implicitDefEqProofs (maxSteps := 1000000) (disch := omega) only [push_cast, ↓dstAt_zero, ↓dstAt_succ, ↓arun_skip, ↓arun_region, ↓arun_seq, ↓arun_cond, ↓arun_block, ↓arun_loop, ↓arun_exit, ↓arun_ret, aops_nil, aops_cons, aops_cons_guard, ↓putA_some, ↓putA_none, ↓aop_move, ↓aop_assign, ↓aop_pick, ↓aop_alloc, ↓aop_box, ↓aop_build, ↓aop_buildSlice, ↓aop_load, ↓aop_store, ↓aop_nilCheck, ↓aop_binOp, ↓aop_unOp, ↓aop_convert, ↓aop_makeSlice, ↓aop_fieldAddr, ↓aop_field, ↓aop_indexAddr, ↓aop_index, ↓aop_lookup, ↓aop_mapUpdate, ↓aop_insert, ↓aop_extract, ↓aop_callB, ↓aop_callF, ↓aop_callT, ↓aop_makeFunc, ↓aop_makeMap, ↓aop_slice, ↓aevs_nil, ↓aevs_cons, ↓evP_nil, ↓evP_cons, ↓aevO_none, ↓aevO_some, ↓reduceIte, reduceCtorEq, Nat.reduceEqDiff, Nat.reduceAdd, Nat.reduceLT, Nat.reduceSub, Nat.reduceMul, Nat.reduceLeDiff, if_true, if_false, if_pos, if_neg, s12, Iss, hx, h0, v1, tn1]
theorem r12e {a : Code} (h : loopOf 0 Try.f12 = some a) : roundA Try.cfg 12 iter (call Try.cfg) 0 a (s12 L L.length) = some (.exit 0, [(0, Iss L)], []) := by
  cases h
  simp -implicitDefEqProofs (maxSteps := 1000000) (disch := omega) only [push_cast, ↓dstAt_zero, ↓dstAt_succ, ↓arun_skip, ↓arun_region, ↓arun_seq, ↓arun_cond, ↓arun_block, ↓arun_loop, ↓arun_exit, ↓arun_ret, aops_nil, aops_cons, aops_cons_guard, ↓putA_some, ↓putA_none, ↓aop_move, ↓aop_assign, ↓aop_pick, ↓aop_alloc, ↓aop_box, ↓aop_build, ↓aop_buildSlice, ↓aop_load, ↓aop_store, ↓aop_nilCheck, ↓aop_binOp, ↓aop_unOp, ↓aop_convert, ↓aop_makeSlice, ↓aop_fieldAddr, ↓aop_field, ↓aop_indexAddr, ↓aop_index, ↓aop_lookup, ↓aop_mapUpdate, ↓aop_insert, ↓aop_extract, ↓aop_callB, ↓aop_callF, ↓aop_callT, ↓aop_makeFunc, ↓aop_makeMap, ↓aop_slice, ↓aevs_nil, ↓aevs_cons, ↓evP_nil, ↓evP_cons, ↓aevO_none, ↓aevO_some, ↓reduceIte, reduceCtorEq, Nat.reduceEqDiff, Nat.reduceAdd, Nat.reduceLT, Nat.reduceSub, Nat.reduceMul, Nat.reduceLeDiff, if_true, if_false, if_pos, if_neg, s12, Iss, Int.lt_irrefl]
section
variable (hok : ∀ j, j < L.length → okG L j = true)
include hok
theorem asc_ok : Asc L := asc_of fun i hi => by
  have := hok (i + 1) hi
  simp only [okG, Bool.and_eq_true, Bool.or_eq_true, decide_eq_true_eq, Nat.add_sub_cancel] at this
  exact this.2.resolve_left (by omega)
def s12b (L : List (List Int)) (i : Nat) : St := ([(0, Iss L), (4, I i)], [])
def s12c (L : List (List Int)) (i k : Nat) : St := ([(0, Iss L), (4, I i), (5, I k)], [])
theorem i12 {a : Code} (h : loopOf 4 Try.f12 = some a) {i k : Nat} (hi : i < L.length) (hk : k < L.length) : roundA Try.cfg 12 iter (call Try.cfg) 4 a (s12c L i k) = some (if decide (mulP (gt L i) (gt L k) ∈ L) = true then (.normal, s12c L i (k + 1)) else (.ret, [(2, .v (.bool false))], [])) := by
  have hx := gt_some hi
  have hy := gt_some hk
  obtain ⟨vi, li⟩ := ok_len (hok i hi)
  obtain ⟨vk, lk⟩ := ok_len (hok k hk)
  have h6 := valid_len vi
  have h41 := call41u (A := gt L i) (C := gt L k) h6 (by omega) (fun j hj => by rw [show (gt L i).length = (gt L k).length by omega]; exact valid_range vk (by omega))
  have hlen := mulP_length (gt L i) (gt L k)
  have h40 := call40 (L := L) (b := mulP (gt L i) (gt L k)) (by omega) (fun x hx => by have := hs x hx; omega) (by omega)
  rw [hlen] at h40
  have hz : decide (L[placeL L (mulP (gt L i) (gt L k))]? = some (mulP (gt L i) (gt L k))) = decide (mulP (gt L i) (gt L k) ∈ L) := decide_eq_decide.2 (place_mem (asc_ok hL hs hok))
  rw [hz] at h40
  cases h
  by_cases hm : mulP (gt L i) (gt L k) ∈ L
  · rw [decide_eq_true hm] at h40 ⊢
    rw [if_pos rfl]
    generalize placeL L (mulP (gt L i) (gt L k)) = pl at *
    generalize mulP (gt L i) (gt L k) = p at *
    generalize gt L i = x at *
    generalize gt L k = y at *
    simp -implicitDefEqProofs (maxSteps := 1000000) (disch := omega) only [push_cast, ↓dstAt_zero, ↓dstAt_succ, ↓arun_skip, ↓arun_region, ↓arun_seq, ↓arun_cond, ↓arun_block, ↓arun_loop, ↓arun_exit, ↓arun_ret, aops_nil, aops_cons, aops_cons_guard, ↓putA_some, ↓putA_none, ↓aop_move, ↓aop_assign, ↓aop_pick, ↓aop_alloc, ↓aop_box, ↓aop_build, ↓aop_buildSlice, ↓aop_load, ↓aop_store, ↓aop_nilCheck, ↓aop_binOp, ↓aop_unOp, ↓aop_convert, ↓aop_makeSlice, ↓aop_fieldAddr, ↓aop_field, ↓aop_indexAddr, ↓aop_index, ↓aop_lookup, ↓aop_mapUpdate, ↓aop_insert, ↓aop_extract, ↓aop_callB, ↓aop_callF, ↓aop_callT, ↓aop_makeFunc, ↓aop_makeMap, ↓aop_slice, ↓aevs_nil, ↓aevs_cons, ↓evP_nil, ↓evP_cons, ↓aevO_none, ↓aevO_some, ↓reduceIte, reduceCtorEq, Nat.reduceEqDiff, Nat.reduceAdd, Nat.reduceLT, Nat.reduceSub, Nat.reduceMul, Nat.reduceLeDiff, if_true, if_false, if_pos, if_neg, s12c, Iss, hx, hy, h41, h40]
    try rfl
  · rw [decide_eq_false hm] at h40 ⊢
    rw [if_neg (by simp)]
    generalize placeL L (mulP (gt L i) (gt L k)) = pl at *
    generalize mulP (gt L i) (gt L k) = p at *
    generalize gt L i = x at *
    generalize gt L k = y at *
    simp -implicitDefEqProofs (maxSteps := 1000000) (disch := omega) only [push_cast, ↓dstAt_zero, ↓dstAt_succ, ↓arun_skip, ↓arun_region, ↓arun_seq, ↓arun_cond, ↓arun_block, ↓arun_loop, ↓arun_exit, ↓arun_ret, aops_nil, aops_cons, aops_cons_guard, ↓putA_some, ↓putA_none, ↓aop_move, ↓aop_assign, ↓aop_pick, ↓aop_alloc, ↓aop_box, ↓aop_build, ↓aop_buildSlice, ↓aop_load, ↓aop_store, ↓aop_nilCheck, ↓aop_binOp, ↓aop_unOp, ↓aop_convert, ↓aop_makeSlice, ↓aop_fieldAddr, ↓aop_field, ↓aop_indexAddr, ↓aop_index, ↓aop_lookup, ↓aop_mapUpdate, ↓aop_insert, ↓aop_extract, ↓aop_callB, ↓aop_callF, ↓aop_callT, ↓aop_makeFunc, ↓aop_makeMap, ↓aop_slice, ↓aevs_nil, ↓aevs_cons, ↓evP_nil, ↓evP_cons, ↓aevO_none, ↓aevO_some, ↓reduceIte, reduceCtorEq, Nat.reduceEqDiff, Nat.reduceAdd, Nat.reduceLT, Nat.reduceSub, Nat.reduceMul, Nat.reduceLeDiff, if_true, if_false, if_pos, if_neg, s12c, Iss, hx, hy, h41, h40]
    try rfl
theorem i12e {a : Code} (h : loopOf 4 Try.f12 = some a) {i : Nat} : roundA Try.cfg 12 iter (call Try.cfg) 4 a (s12c L i L.length) = some (.exit 4, s12b L i) := by
  cases h
  simp -implicitDefEqProofs (maxSteps := 1000000) (disch := omega) only [push_cast, ↓dstAt_zero, ↓dstAt_succ, ↓arun_skip, ↓arun_region, ↓arun_seq, ↓arun_cond, ↓arun_block, ↓arun_loop, ↓arun_exit, ↓arun_ret, aops_nil, aops_cons, aops_cons_guard, ↓putA_some, ↓putA_none, ↓aop_move, ↓aop_assign, ↓aop_pick, ↓aop_alloc, ↓aop_box, ↓aop_build, ↓aop_buildSlice, ↓aop_load, ↓aop_store, ↓aop_nilCheck, ↓aop_binOp, ↓aop_unOp, ↓aop_convert, ↓aop_makeSlice, ↓aop_fieldAddr, ↓aop_field, ↓aop_indexAddr, ↓aop_index, ↓aop_lookup, ↓aop_mapUpdate, ↓aop_insert, ↓aop_extract, ↓aop_callB, ↓aop_callF, ↓aop_callT, ↓aop_makeFunc, ↓aop_makeMap, ↓aop_slice, ↓aevs_nil, ↓aevs_cons, ↓evP_nil, ↓evP_cons, ↓aevO_none, ↓aevO_some, ↓reduceIte, reduceCtorEq, Nat.reduceEqDiff, Nat.reduceAdd, Nat.reduceLT, Nat.reduceSub, Nat.reduceMul, Nat.reduceLeDiff, if_true, if_false, if_pos, if_neg, s12b, s12c, Iss, Int.lt_irrefl]
theorem inner12 {a : Code} (h : loopOf 4 Try.f12 = some a) {i : Nat} (hi : i < L.length) : iter (roundA Try.cfg 12 iter (call Try.cfg) 4 a) (s12c L i 0) = some (if allG L i then (.exit 4, s12b L i) else (.ret, [(2, .v (.bool false))], [])) :=
  iter_all (S := fun k => s12c L i k) (q := fun k => decide (mulP (gt L i) (gt L k) ∈ L)) (fun k hk hq => by have := i12 hL hs hok h hi hk; rw [if_pos hq] at this; exact this)
    (fun k hk hq => by have := i12 hL hs hok h hi hk; rw [if_neg (by rw [hq]; simp)] at this; exact this) (i12e hL hs hok h) (by simp) (by simp) L.length 0 (by omega)
theorem o12 {a : Code} (h : loopOf 2 Try.f12 = some a) {i : Nat} (hi : i < L.length) : roundA Try.cfg 12 iter (call Try.cfg) 2 a (s12b L i) = some (if allG L i = true then (.normal, s12b L (i + 1)) else (.ret, [(2, .v (.bool false))], [])) := by
  cases h4 : loopOf 4 Try.f12 with
  | none => cases h4
  | some a4 =>
    have hH := inner12 hL hs hok h4 hi
    cases h
    cases h4
    simp only [s12b, s12c, Is, Iss, Int.natCast_zero] at hH
    cases hg : allG L i with
    | true =>
      rw [hg, if_pos rfl] at hH
      simp -implicitDefEqProofs (maxSteps := 1000000) (disch := omega) only [push_cast, ↓dstAt_zero, ↓dstAt_succ, ↓arun_skip, ↓arun_region, ↓arun_seq, ↓arun_cond, ↓arun_block, ↓arun_loop, ↓arun_exit, ↓arun_ret, aops_nil, aops_cons, aops_cons_guard, ↓putA_some, ↓putA_none, ↓aop_move, ↓aop_assign, ↓aop_pick, ↓aop_alloc, ↓aop_box, ↓aop_build, ↓aop_buildSlice, ↓aop_load, ↓aop_store, ↓aop_nilCheck, ↓aop_binOp, ↓aop_unOp, ↓aop_convert, ↓aop_makeSlice, ↓aop_fieldAddr, ↓aop_field, ↓aop_indexAddr, ↓aop_index, ↓aop_lookup, ↓aop_mapUpdate, ↓aop_insert, ↓aop_extract, ↓aop_callB, ↓aop_callF, ↓aop_callT, ↓aop_makeFunc, ↓aop_makeMap, ↓aop_slice, ↓aevs_nil, ↓aevs_cons, ↓evP_nil, ↓evP_cons, ↓aevO_none, ↓aevO_some, ↓reduceIte, reduceCtorEq, Nat.reduceEqDiff, Nat.reduceAdd, Nat.reduceLT, Nat.reduceSub, Nat.reduceMul, Nat.reduceLeDiff, if_true, if_false, if_pos, if_neg, s12b, Iss, hH]
      try rfl
    | false =>
      rw [hg, if_neg (by simp)] at hH
      simp -implicitDefEqProofs (maxSteps := 1000000) (disch := omega) only [push_cast, ↓dstAt_zero, ↓dstAt_succ, ↓arun_skip, ↓arun_region, ↓arun_seq, ↓arun_cond, ↓arun_block, ↓arun_loop, ↓arun_exit, ↓arun_ret, aops_nil, aops_cons, aops_cons_guard, ↓putA_some, ↓putA_none, ↓aop_move, ↓aop_assign, ↓aop_pick, ↓aop_alloc, ↓aop_box, ↓aop_build, ↓aop_buildSlice, ↓aop_load, ↓aop_store, ↓aop_nilCheck, ↓aop_binOp, ↓aop_unOp, ↓aop_convert, ↓aop_makeSlice, ↓aop_fieldAddr, ↓aop_field, ↓aop_indexAddr, ↓aop_index, ↓aop_lookup, ↓aop_mapUpdate, ↓aop_insert, ↓aop_extract, ↓aop_callB, ↓aop_callF, ↓aop_callT, ↓aop_makeFunc, ↓aop_makeMap, ↓aop_slice, ↓aevs_nil, ↓aevs_cons, ↓evP_nil, ↓evP_cons, ↓aevO_none, ↓aevO_some, ↓reduceIte, reduceCtorEq, Nat.reduceEqDiff, Nat.reduceAdd, Nat.reduceLT, Nat.reduceSub, Nat.reduceMul, Nat.reduceLeDiff, if_true, if_false, if_pos, if_neg, s12b, Iss, hH]
      try rfl
theorem o12e {a : Code} (h : loopOf 2 Try.f12 = some a) : roundA Try.cfg 12 iter (call Try.cfg) 2 a (s12b L L.length) = some (.exit 2, [], []) := by
  cases h
  simp -implicitDefEqProofs (maxSteps := 1000000) (disch := omega) only [push_cast, ↓dstAt_zero, ↓dstAt_succ, ↓arun_skip, ↓arun_region, ↓arun_seq, ↓arun_cond, ↓arun_block, ↓arun_loop, ↓arun_exit, ↓arun_ret, aops_nil, aops_cons, aops_cons_guard, ↓putA_some, ↓putA_none, ↓aop_move, ↓aop_assign, ↓aop_pick, ↓aop_alloc, ↓aop_box, ↓aop_build, ↓aop_buildSlice, ↓aop_load, ↓aop_store, ↓aop_nilCheck, ↓aop_binOp, ↓aop_unOp, ↓aop_convert, ↓aop_makeSlice, ↓aop_fieldAddr, ↓aop_field, ↓aop_indexAddr, ↓aop_index, ↓aop_lookup, ↓aop_mapUpdate, ↓aop_insert, ↓aop_extract, ↓aop_callB, ↓aop_callF, ↓aop_callT, ↓aop_makeFunc, ↓aop_makeMap, ↓aop_slice, ↓aevs_nil, ↓aevs_cons, ↓evP_nil, ↓evP_cons, ↓aevO_none, ↓aevO_some, ↓reduceIte, reduceCtorEq, Nat.reduceEqDiff, Nat.reduceAdd, Nat.reduceLT, Nat.reduceSub, Nat.reduceMul, Nat.reduceLeDiff, if_true, if_false, if_pos, if_neg, s12b, Iss, Int.lt_irrefl]
theorem outer12 {a : Code} (h : loopOf 2 Try.f12 = some a) : iter (roundA Try.cfg 12 iter (call Try.cfg) 2 a) (s12b L 0) = some (if (List.range' 0 L.length).all (allG L) then (.exit 2, [], []) else (.ret, [(2, .v (.bool false))], [])) :=
  iter_all (S := fun i => s12b L i) (q := allG L) (fun i hi hq => by have := o12 hL hs hok h hi; rw [if_pos hq] at this; exact this)
    (fun i hi hq => by have := o12 hL hs hok h hi; rw [if_neg (by rw [hq]; simp)] at this; exact this) (o12e hL hs hok h) (by simp) (by simp) L.length 0 (by omega)
end
theorem call12 : call Try.cfg 12 [.sl false L.length (L.map Is)] [] = some (.v (.bool (isG L)), []) := by
  refine call_step ?_
  cases h0 : loopOf 0 Try.f12 with
  | none => cases h0
  | some a0 =>
  cases h2 : loopOf 2 Try.f12 with
  | none => cases h2
  | some a2 =>
    by_cases hne : L = []
    · subst hne
      have e : isG [] = false := by simp [isG]
      rw [e]
      simp -implicitDefEqProofs (maxSteps := 1000000) (disch := omega) only [stepA, bodyA, Try.f12, push_cast, ↓dstAt_zero, ↓dstAt_succ, ↓arun_skip, ↓arun_region, ↓arun_seq, ↓arun_cond, ↓arun_block, ↓arun_loop, ↓arun_exit, ↓arun_ret, aops_nil, aops_cons, aops_cons_guard, ↓putA_some, ↓putA_none, ↓aop_move, ↓aop_assign, ↓aop_pick, ↓aop_alloc, ↓aop_box, ↓aop_build, ↓aop_buildSlice, ↓aop_load, ↓aop_store, ↓aop_nilCheck, ↓aop_binOp, ↓aop_unOp, ↓aop_convert, ↓aop_makeSlice, ↓aop_fieldAddr, ↓aop_field, ↓aop_indexAddr, ↓aop_index, ↓aop_lookup, ↓aop_mapUpdate, ↓aop_insert, ↓aop_extract, ↓aop_callB, ↓aop_callF, ↓aop_callT, ↓aop_makeFunc, ↓aop_makeMap, ↓aop_slice, ↓aevs_nil, ↓aevs_cons, ↓evP_nil, ↓evP_cons, ↓aevO_none, ↓aevO_some, ↓reduceIte, reduceCtorEq, Nat.reduceEqDiff, Nat.reduceAdd, Nat.reduceLT, Nat.reduceSub, Nat.reduceMul, Nat.reduceLeDiff, if_true, if_false, if_pos, if_neg, Int.natCast_zero]
    have hpos : 0 < L.length := List.length_pos_iff.2 hne
    have hx := gt_some hpos
    have l0 := hs _ (List.mem_of_getElem? hx)
    have v0 := call24u l0
    have hokv : okG L 0 = validL (gt L 0) := by simp [okG]
    have hr : List.range' 0 L.length = 0 :: List.range' 1 (L.length - 1) := by
      obtain ⟨n, hn⟩ : ∃ n, L.length = n + 1 := ⟨L.length - 1, by omega⟩
      rw [hn, List.range'_succ]; rfl
    cases hv : validL (gt L 0) with
    | false =>
      rw [hv] at v0
      have e : isG L = false := by
        unfold isG
        rw [hr, List.all_cons, hokv, hv]
        simp
      rw [e]
      generalize gt L 0 = x at *
      simp -implicitDefEqProofs (maxSteps := 1000000) (disch := omega) only [stepA, bodyA, Try.f12, push_cast, ↓dstAt_zero, ↓dstAt_succ, ↓arun_skip, ↓arun_region, ↓arun_seq, ↓arun_cond, ↓arun_block, ↓arun_loop, ↓arun_exit, ↓arun_ret, aops_nil, aops_cons, aops_cons_guard, ↓putA_some, ↓putA_none, ↓aop_move, ↓aop_assign, ↓aop_pick, ↓aop_alloc, ↓aop_box, ↓aop_build, ↓aop_buildSlice, ↓aop_load, ↓aop_store, ↓aop_nilCheck, ↓aop_binOp, ↓aop_unOp, ↓aop_convert, ↓aop_makeSlice, ↓aop_fieldAddr, ↓aop_field, ↓aop_indexAddr, ↓aop_index, ↓aop_lookup, ↓aop_mapUpdate, ↓aop_insert, ↓aop_extract, ↓aop_callB, ↓aop_callF, ↓aop_callT, ↓aop_makeFunc, ↓aop_makeMap, ↓aop_slice, ↓aevs_nil, ↓aevs_cons, ↓evP_nil, ↓evP_cons, ↓aevO_none, ↓aevO_some, ↓reduceIte, reduceCtorEq, Nat.reduceEqDiff, Nat.reduceAdd, Nat.reduceLT, Nat.reduceSub, Nat.reduceMul, Nat.reduceLeDiff, if_true, if_false, if_pos, if_neg, hx, v0]
    | true =>
      rw [hv] at v0
      have h6 := valid_len hv
      have h38 := call38u (n := (gt L 0).length) (by omega)
      have hil := idP_length (gt L 0).length
      have h37 := call37u (A := gt L 0) (C := idP (gt L 0).length) (by omega) (by omega)
      rw [hil] at h37
      by_cases hid : gt L 0 = idP (gt L 0).length
      · rw [decide_eq_true hid] at h37
        have hn1 : L.length - 1 + 1 = L.length := by omega
        have hH := iter_all (F := roundA Try.cfg 12 iter (call Try.cfg) 0 a0) (S := fun i => s12 L (i + 1)) (q := fun i => okG L (i + 1)) (n := L.length - 1) (rt := (.exit 0, [(0, Iss L)], [])) (rf := (.ret, [(2, .v (.bool false))], [])) (fun i hi hq => by
              have := r12 hL hs h0 (j := i) (by omega)
              rw [if_pos hq] at this
              exact this) (fun i hi hq => by
              have := r12 hL hs h0 (j := i) (by omega)
              rw [if_neg (by rw [hq]; simp)] at this
              exact this) (by rw [hn1]; exact r12e hL hs h0) (by simp) (by simp) (L.length - 1) 0 (by omega)
        have hall : (List.range' 0 L.length).all (okG L) = (List.range' 0 (L.length - 1)).all fun i => okG L (i + 1) := by
          rw [hr, List.all_cons, hokv, hv, Bool.true_and]
          apply Bool.eq_iff_iff.2
          simp only [List.all_eq_true, List.mem_range', Nat.one_mul]
          constructor
          · rintro h x ⟨i, h1, rfl⟩
            exact h _ ⟨i, h1, by omega⟩
          · rintro h x ⟨i, h1, rfl⟩
            rw [Nat.add_comm]
            exact h i ⟨i, h1, by omega⟩
        have eG : isG L = (((List.range' 0 (L.length - 1)).all fun i => okG L (i + 1)) && (List.range' 0 L.length).all (allG L)) := by
          unfold isG
          rw [hall, decide_eq_true hid, decide_eq_false hne]
          simp
        rw [eG]
        simp only [s12, Iss, Nat.zero_add, Int.natCast_one] at hH
        cases h0
        cases hp1 : (List.range' 0 (L.length - 1)).all fun i => okG L (i + 1) with
        | false =>
          rw [hp1, if_neg (by simp)] at hH
          clear hid hokv hv eG hall hp1
          generalize gt L 0 = x at *
          simp -implicitDefEqProofs (maxSteps := 1000000) (disch := omega) only [stepA, bodyA, Try.f12, push_cast, ↓dstAt_zero, ↓dstAt_succ, ↓arun_skip, ↓arun_region, ↓arun_seq, ↓arun_cond, ↓arun_block, ↓arun_loop, ↓arun_exit, ↓arun_ret, aops_nil, aops_cons, aops_cons_guard, ↓putA_some, ↓putA_none, ↓aop_move, ↓aop_assign, ↓aop_pick, ↓aop_alloc, ↓aop_box, ↓aop_build, ↓aop_buildSlice, ↓aop_load, ↓aop_store, ↓aop_nilCheck, ↓aop_binOp, ↓aop_unOp, ↓aop_convert, ↓aop_makeSlice, ↓aop_fieldAddr, ↓aop_field, ↓aop_indexAddr, ↓aop_index, ↓aop_lookup, ↓aop_mapUpdate, ↓aop_insert, ↓aop_extract, ↓aop_callB, ↓aop_callF, ↓aop_callT, ↓aop_makeFunc, ↓aop_makeMap, ↓aop_slice, ↓aevs_nil, ↓aevs_cons, ↓evP_nil, ↓evP_cons, ↓aevO_none, ↓aevO_some, ↓reduceIte, reduceCtorEq, Nat.reduceEqDiff, Nat.reduceAdd, Nat.reduceLT, Nat.reduceSub, Nat.reduceMul, Nat.reduceLeDiff, if_true, if_false, if_pos, if_neg, hx, v0, h38, h37, hH, Bool.false_and]
        | true =>
          rw [hp1, if_pos rfl] at hH
          have hok : ∀ j, j < L.length → okG L j = true := fun j hj => List.all_eq_true.1 (hall.trans hp1) j (by simp [List.mem_range']; omega)
          have hO := outer12 hL hs hok h2
          cases h2
          simp only [s12b, Iss, Int.natCast_zero] at hO
          clear hid hokv hv eG hall hp1 hok
          generalize gt L 0 = x at *
          cases hall2 : (List.range' 0 L.length).all (allG L) with
          | true =>
            rw [hall2, if_pos rfl] at hO
            simp -implicitDefEqProofs (maxSteps := 1000000) (disch := omega) only [stepA, bodyA, Try.f12, push_cast, ↓dstAt_zero, ↓dstAt_succ, ↓arun_skip, ↓arun_region, ↓arun_seq, ↓arun_cond, ↓arun_block, ↓arun_loop, ↓arun_exit, ↓arun_ret, aops_nil, aops_cons, aops_cons_guard, ↓putA_some, ↓putA_none, ↓aop_move, ↓aop_assign, ↓aop_pick, ↓aop_alloc, ↓aop_box, ↓aop_build, ↓aop_buildSlice, ↓aop_load, ↓aop_store, ↓aop_nilCheck, ↓aop_binOp, ↓aop_unOp, ↓aop_convert, ↓aop_makeSlice, ↓aop_fieldAddr, ↓aop_field, ↓aop_indexAddr, ↓aop_index, ↓aop_lookup, ↓aop_mapUpdate, ↓aop_insert, ↓aop_extract, ↓aop_callB, ↓aop_callF, ↓aop_callT, ↓aop_makeFunc, ↓aop_makeMap, ↓aop_slice, ↓aevs_nil, ↓aevs_cons, ↓evP_nil, ↓evP_cons, ↓aevO_none, ↓aevO_some, ↓reduceIte, reduceCtorEq, Nat.reduceEqDiff, Nat.reduceAdd, Nat.reduceLT, Nat.reduceSub, Nat.reduceMul, Nat.reduceLeDiff, if_true, if_false, if_pos, if_neg, hx, v0, h38, h37, hH, hO]
          | false =>
            rw [hall2, if_neg (by simp)] at hO
            simp -implicitDefEqProofs (maxSteps := 1000000) (disch := omega) only [stepA, bodyA, Try.f12, push_cast, ↓dstAt_zero, ↓dstAt_succ, ↓arun_skip, ↓arun_region, ↓arun_seq, ↓arun_cond, ↓arun_block, ↓arun_loop, ↓arun_exit, ↓arun_ret, aops_nil, aops_cons, aops_cons_guard, ↓putA_some, ↓putA_none, ↓aop_move, ↓aop_assign, ↓aop_pick, ↓aop_alloc, ↓aop_box, ↓aop_build, ↓aop_buildSlice, ↓aop_load, ↓aop_store, ↓aop_nilCheck, ↓aop_binOp, ↓aop_unOp, ↓aop_convert, ↓aop_makeSlice, ↓aop_fieldAddr, ↓aop_field, ↓aop_indexAddr, ↓aop_index, ↓aop_lookup, ↓aop_mapUpdate, ↓aop_insert, ↓aop_extract, ↓aop_callB, ↓aop_callF, ↓aop_callT, ↓aop_makeFunc, ↓aop_makeMap, ↓aop_slice, ↓aevs_nil, ↓aevs_cons, ↓evP_nil, ↓evP_cons, ↓aevO_none, ↓aevO_some, ↓reduceIte, reduceCtorEq, Nat.reduceEqDiff, Nat.reduceAdd, Nat.reduceLT, Nat.reduceSub, Nat.reduceMul, Nat.reduceLeDiff, if_true, if_false, if_pos, if_neg, hx, v0, h38, h37, hH, hO]
      · rw [decide_eq_false hid] at h37
        have e : isG L = false := by
          unfold isG
          rw [decide_eq_false hid]
          simp
        rw [e]
        clear hid e hokv hv
        generalize gt L 0 = x at *
        simp -implicitDefEqProofs (maxSteps := 1000000) (disch := omega) only [stepA, bodyA, Try.f12, push_cast, ↓dstAt_zero, ↓dstAt_succ, ↓arun_skip, ↓arun_region, ↓arun_seq, ↓arun_cond, ↓arun_block, ↓arun_loop, ↓arun_exit, ↓arun_ret, aops_nil, aops_cons, aops_cons_guard, ↓putA_some, ↓putA_none, ↓aop_move, ↓aop_assign, ↓aop_pick, ↓aop_alloc, ↓aop_box, ↓aop_build, ↓aop_buildSlice, ↓aop_load, ↓aop_store, ↓aop_nilCheck, ↓aop_binOp, ↓aop_unOp, ↓aop_convert, ↓aop_makeSlice, ↓aop_fieldAddr, ↓aop_field, ↓aop_indexAddr, ↓aop_index, ↓aop_lookup, ↓aop_mapUpdate, ↓aop_insert, ↓aop_extract, ↓aop_callB, ↓aop_callF, ↓aop_callT, ↓aop_makeFunc, ↓aop_makeMap, ↓aop_slice, ↓aevs_nil, ↓aevs_cons, ↓evP_nil, ↓evP_cons, ↓aevO_none, ↓aevO_some, ↓reduceIte, reduceCtorEq, Nat.reduceEqDiff, Nat.reduceAdd, Nat.reduceLT, Nat.reduceSub, Nat.reduceMul, Nat.reduceLeDiff, if_true, if_false, if_pos, if_neg, hx, v0, h38, h37]
end
end Go.Proofs

/- identity, product, Mod. -/
set_option linter.unusedVariables false
set_option linter.unusedSimpArgs false
set_option linter.unusedSectionVars false
namespace Go.Proofs
open Go.AI
set_option maxRecDepth 20000
theorem call15 {n m : Int} (h0 : 0 < m) (h1 : m ≤ 1000) (hn : -9223372036854775808 ≤ n) (hn' : n < 9223372036854775808) : call Try.cfg 15 [I n, I m] [] = some (I (n % m), []) := by
  refine call_step ?_
  have e1 : n.tmod m = n % m ∨ n.tmod m = n % m - m := by
    by_cases h : 0 ≤ n
    · left; rw [Int.tmod_eq_emod_of_nonneg h]
    · rw [Int.tmod_eq_emod]
      split
      · left; omega
      · right; omega
  have hm := Int.emod_nonneg n (Int.ne_of_gt h0)
  have hm' := Int.emod_lt_of_pos n h0
  by_cases hs : n.tmod m < 0
  · have e2 : n.tmod m + m = n % m := by omega
    simp -implicitDefEqProofs (disch := omega) only [stepA, bodyA, Try.cfgO, Try.sh15, Try.func15, Try.f15, push_cast, ↓dstAt_zero, ↓dstAt_succ, ↓arun_skip, ↓arun_region, ↓arun_seq, ↓arun_cond, ↓arun_block, ↓arun_loop, ↓arun_exit, ↓arun_ret, aops_nil, aops_cons, aops_cons_guard, ↓putA_some, ↓putA_none, ↓aop_move, ↓aop_assign, ↓aop_pick, ↓aop_alloc, ↓aop_box, ↓aop_build, ↓aop_buildSlice, ↓aop_load, ↓aop_store, ↓aop_nilCheck, ↓aop_binOp, ↓aop_unOp, ↓aop_convert, ↓aop_makeSlice, ↓aop_fieldAddr, ↓aop_field, ↓aop_indexAddr, ↓aop_index, ↓aop_lookup, ↓aop_mapUpdate, ↓aop_insert, ↓aop_extract, ↓aop_callB, ↓aop_callF, ↓aop_callT, ↓aop_makeFunc, ↓aop_makeMap, ↓aop_slice, ↓aevs_nil, ↓aevs_cons, ↓evP_nil, ↓evP_cons, ↓aevO_none, ↓aevO_some, ↓reduceIte, reduceCtorEq, Nat.reduceEqDiff, Nat.reduceAdd, Nat.reduceLT, Nat.reduceSub, Nat.reduceMul, Nat.reduceLeDiff, if_true, if_false, if_pos, if_neg, abin_rem, e2]
  · have e2 : n.tmod m = n % m := by omega
    rw [e2] at hs
    simp -implicitDefEqProofs (disch := omega) only [stepA, bodyA, Try.cfgO, Try.sh15, Try.func15, Try.f15, push_cast, ↓dstAt_zero, ↓dstAt_succ, ↓arun_skip, ↓arun_region, ↓arun_seq, ↓arun_cond, ↓arun_block, ↓arun_loop, ↓arun_exit, ↓arun_ret, aops_nil, aops_cons, aops_cons_guard, ↓putA_some, ↓putA_none, ↓aop_move, ↓aop_assign, ↓aop_pick, ↓aop_alloc, ↓aop_box, ↓aop_build, ↓aop_buildSlice, ↓aop_load, ↓aop_store, ↓aop_nilCheck, ↓aop_binOp, ↓aop_unOp, ↓aop_convert, ↓aop_makeSlice, ↓aop_fieldAddr, ↓aop_field, ↓aop_indexAddr, ↓aop_index, ↓aop_lookup, ↓aop_mapUpdate, ↓aop_insert, ↓aop_extract, ↓aop_callB, ↓aop_callF, ↓aop_callT, ↓aop_makeFunc, ↓aop_makeMap, ↓aop_slice, ↓aevs_nil, ↓aevs_cons, ↓evP_nil, ↓evP_cons, ↓aevO_none, ↓aevO_some, ↓reduceIte, reduceCtorEq, Nat.reduceEqDiff, Nat.reduceAdd, Nat.reduceLT, Nat.reduceSub, Nat.reduceMul, Nat.reduceLeDiff, if_true, if_false, if_pos, if_neg, abin_rem, e2]

end Go.Proofs

/- permutation. -/
set_option linter.unusedVariables false
set_option linter.unusedSimpArgs false
set_option linter.unusedSectionVars false
namespace Go.Proofs
open Go.AI
set_option maxRecDepth 20000
theorem call15u {n m : Int} (h0 : 0 < m) (h1 : m ≤ 1000) (hn : -9223372036854775808 ≤ n) (hn' : n < 9223372036854775808) : call Try.cfg 15 [.v (.int .i64 n), .v (.int .i64 m)] [] = some (.v (.int .i64 (n % m)), []) := call15 h0 h1 hn hn'
/-- One place more. -/
def putP (o : List Int) (k : Nat) (i : Int) : List Int := o.take k ++ [i] ++ o.drop k
def st16 (A : List Int) (n : Nat) (o : List Int) (i : Nat) : St := ([(0, Is A), (1, I n), (5, Is o), (6, I i)], [.cells true 0 []])
section
variable {a : Code} (h : loopOf 0 Try.f16 = some a) {A : List Int} {n : Nat} {o : List Int} {i : Nat} (hA : A.length ≤ 1000) (hn : n ≤ 6) (hi : i < n) (ho : o.length = i)
include h hA hn hi ho
theorem r16b (hx : A.length ≤ i) : roundA Try.cfg 16 iter (call Try.cfg) 0 a (st16 A n o i) = some (.normal, st16 A n (putP o 0 i) (i + 1)) := by
  cases h
  simp -implicitDefEqProofs (maxSteps := 1000000) (disch := omega) only [push_cast, ↓dstAt_zero, ↓dstAt_succ, ↓arun_skip, ↓arun_region, ↓arun_seq, ↓arun_cond, ↓arun_block, ↓arun_loop, ↓arun_exit, ↓arun_ret, aops_nil, aops_cons, aops_cons_guard, ↓putA_some, ↓putA_none, ↓aop_move, ↓aop_assign, ↓aop_pick, ↓aop_alloc, ↓aop_box, ↓aop_build, ↓aop_buildSlice, ↓aop_load, ↓aop_store, ↓aop_nilCheck, ↓aop_binOp, ↓aop_unOp, ↓aop_convert, ↓aop_makeSlice, ↓aop_fieldAddr, ↓aop_field, ↓aop_indexAddr, ↓aop_index, ↓aop_lookup, ↓aop_mapUpdate, ↓aop_insert, ↓aop_extract, ↓aop_callB, ↓aop_callF, ↓aop_callT, ↓aop_makeFunc, ↓aop_makeMap, ↓aop_slice, ↓aevs_nil, ↓aevs_cons, ↓evP_nil, ↓evP_cons, ↓aevO_none, ↓aevO_some, ↓reduceIte, reduceCtorEq, Nat.reduceEqDiff, Nat.reduceAdd, Nat.reduceLT, Nat.reduceSub, Nat.reduceMul, Nat.reduceLeDiff, if_true, if_false, if_pos, if_neg, st16, putP, List.length_cons]
  have e : List.take (1 + o.length) ((i : Int) :: o) = (i : Int) :: o := List.take_of_length_le (by simp; omega)
  rw [e, Nat.add_comm 1]
  try rfl
theorem r16a {x : Int} (hlt : i < A.length) (hx : A[i]? = some x) (h1 : -9223372036854775808 ≤ x) (h2 : x < 9223372036854775808) {k : Nat} (hk : x % ((i : Int) + 1) = k) (hk' : k ≤ i) : roundA Try.cfg 16 iter (call Try.cfg) 0 a (st16 A n o i) = some (.normal, st16 A n (putP o k i) (i + 1)) := by
  cases h
  have h15 := call15u (n := x) (m := (i : Int) + 1) (by omega) (by omega) h1 h2
  rw [hk] at h15
  simp -implicitDefEqProofs (maxSteps := 1000000) (disch := omega) only [push_cast, ↓dstAt_zero, ↓dstAt_succ, ↓arun_skip, ↓arun_region, ↓arun_seq, ↓arun_cond, ↓arun_block, ↓arun_loop, ↓arun_exit, ↓arun_ret, aops_nil, aops_cons, aops_cons_guard, ↓putA_some, ↓putA_none, ↓aop_move, ↓aop_assign, ↓aop_pick, ↓aop_alloc, ↓aop_box, ↓aop_build, ↓aop_buildSlice, ↓aop_load, ↓aop_store, ↓aop_nilCheck, ↓aop_binOp, ↓aop_unOp, ↓aop_convert, ↓aop_makeSlice, ↓aop_fieldAddr, ↓aop_field, ↓aop_indexAddr, ↓aop_index, ↓aop_lookup, ↓aop_mapUpdate, ↓aop_insert, ↓aop_extract, ↓aop_callB, ↓aop_callF, ↓aop_callT, ↓aop_makeFunc, ↓aop_makeMap, ↓aop_slice, ↓aevs_nil, ↓aevs_cons, ↓evP_nil, ↓evP_cons, ↓aevO_none, ↓aevO_some, ↓reduceIte, reduceCtorEq, Nat.reduceEqDiff, Nat.reduceAdd, Nat.reduceLT, Nat.reduceSub, Nat.reduceMul, Nat.reduceLeDiff, if_true, if_false, if_pos, if_neg, Try.sh15, st16, putP, hx, h15]
  have e1 : List.take k (List.take k o) = List.take k o := by rw [List.take_take, Nat.min_self]
  have e2 : List.take (k + 1) (List.take k o ++ [(i : Int)]) = List.take k o ++ [(i : Int)] := List.take_of_length_le (by simp; omega)
  have e3 : List.take (o.length - k) (List.drop k o) = List.drop k o := List.take_of_length_le (by simp)
  have e4 : List.take (k + 1 + (o.length - k)) (List.take k o ++ [(i : Int)] ++ List.drop k o) = List.take k o ++ [(i : Int)] ++ List.drop k o := List.take_of_length_le (by simp; omega)
  rw [e1, e2, e3, e4, Nat.min_eq_left (by omega)]
  try rfl
end
theorem r16c {a : Code} (h : loopOf 0 Try.f16 = some a) {A : List Int} {n : Nat} {o : List Int} (hn : n ≤ 6) : roundA Try.cfg 16 iter (call Try.cfg) 0 a (st16 A n o n) = some (.exit 0, [(5, Is o)], [.cells true 0 []]) := by
  cases h
  simp -implicitDefEqProofs (maxSteps := 1000000) (disch := omega) only [push_cast, ↓dstAt_zero, ↓dstAt_succ, ↓arun_skip, ↓arun_region, ↓arun_seq, ↓arun_cond, ↓arun_block, ↓arun_loop, ↓arun_exit, ↓arun_ret, aops_nil, aops_cons, aops_cons_guard, ↓putA_some, ↓putA_none, ↓aop_move, ↓aop_assign, ↓aop_pick, ↓aop_alloc, ↓aop_box, ↓aop_build, ↓aop_buildSlice, ↓aop_load, ↓aop_store, ↓aop_nilCheck, ↓aop_binOp, ↓aop_unOp, ↓aop_convert, ↓aop_makeSlice, ↓aop_fieldAddr, ↓aop_field, ↓aop_indexAddr, ↓aop_index, ↓aop_lookup, ↓aop_mapUpdate, ↓aop_insert, ↓aop_extract, ↓aop_callB, ↓aop_callF, ↓aop_callT, ↓aop_makeFunc, ↓aop_makeMap, ↓aop_slice, ↓aevs_nil, ↓aevs_cons, ↓evP_nil, ↓evP_cons, ↓aevO_none, ↓aevO_some, ↓reduceIte, reduceCtorEq, Nat.reduceEqDiff, Nat.reduceAdd, Nat.reduceLT, Nat.reduceSub, Nat.reduceMul, Nat.reduceLeDiff, if_true, if_false, if_pos, if_neg, st16]
/-- The permutation that a list makes: `k` rounds from place `i`. -/
def permS (A : List Int) : Nat → List Int
  | 0 => []
  | i + 1 => putP (permS A i) (if i < A.length then (A.getD i 0 % ((i : Int) + 1)).toNat else 0) i
theorem permS_length (A : List Int) : ∀ i, (permS A i).length = i
  | 0 => rfl
  | i + 1 => by
    have h := permS_length A i
    simp only [permS, putP, List.length_append, List.length_take, List.length_drop, h, List.length_cons, List.length_nil]
    split
    · have h1 := Int.emod_nonneg (A.getD i 0) (show (i : Int) + 1 ≠ 0 by omega)
      have h2 := Int.emod_lt_of_pos (A.getD i 0) (show (0 : Int) < (i : Int) + 1 by omega)
      omega
    · omega
theorem call16 {A : List Int} {n : Nat} (hA : A.length ≤ 1000) (hn : n ≤ 6) (hr : ∀ x ∈ A, -9223372036854775808 ≤ x ∧ x < 9223372036854775808) : call Try.cfg 16 [Is A, I n] [] = some (Is (permS A n), []) := by
  refine call_step ?_
  cases hl : loopOf 0 Try.f16 with
  | none => cases hl
  | some a =>
    have hH := iter_run (F := roundA Try.cfg 16 iter (call Try.cfg) 0 a) (S := fun i => st16 A n (permS A i) i) (n := n) (fun i hi => by
      have ho := permS_length A i
      by_cases hlt : i < A.length
      · have hx : A[i]? = some (A.getD i 0) := by simp [hlt]
        have hm := hr _ (List.mem_of_getElem? hx)
        have h1 := Int.emod_nonneg (A.getD i 0) (show (i : Int) + 1 ≠ 0 by omega)
        have h2 := Int.emod_lt_of_pos (A.getD i 0) (show (0 : Int) < (i : Int) + 1 by omega)
        have := r16a (o := permS A i) hl hA hn hi ho hlt hx hm.1 hm.2 (k := (A.getD i 0 % ((i : Int) + 1)).toNat) (by omega) (by omega)
        rw [this]
        show _ = some (Ex.normal, st16 A n (permS A (i + 1)) (i + 1))
        simp only [permS, hlt, if_true]
      · have := r16b (o := permS A i) hl hA hn hi ho (by omega)
        rw [this]
        show _ = some (Ex.normal, st16 A n (permS A (i + 1)) (i + 1))
        simp only [permS, hlt, if_false]) (r16c hl hn) (by simp) n 0 (by omega)
    cases hl
    have e0 : permS A 0 = [] := rfl
    simp only [st16, Is, Int.natCast_zero, e0, List.length_nil, List.map_nil] at hH
    simp -implicitDefEqProofs (maxSteps := 1000000) (disch := omega) only [stepA, bodyA, Try.cfgO, Try.sh16, Try.func16, Try.f16, push_cast, ↓dstAt_zero, ↓dstAt_succ, ↓arun_skip, ↓arun_region, ↓arun_seq, ↓arun_cond, ↓arun_block, ↓arun_loop, ↓arun_exit, ↓arun_ret, aops_nil, aops_cons, aops_cons_guard, ↓putA_some, ↓putA_none, ↓aop_move, ↓aop_assign, ↓aop_pick, ↓aop_alloc, ↓aop_box, ↓aop_build, ↓aop_buildSlice, ↓aop_load, ↓aop_store, ↓aop_nilCheck, ↓aop_binOp, ↓aop_unOp, ↓aop_convert, ↓aop_makeSlice, ↓aop_fieldAddr, ↓aop_field, ↓aop_indexAddr, ↓aop_index, ↓aop_lookup, ↓aop_mapUpdate, ↓aop_insert, ↓aop_extract, ↓aop_callB, ↓aop_callF, ↓aop_callT, ↓aop_makeFunc, ↓aop_makeMap, ↓aop_slice, ↓aevs_nil, ↓aevs_cons, ↓evP_nil, ↓evP_cons, ↓aevO_none, ↓aevO_some, ↓reduceIte, reduceCtorEq, Nat.reduceEqDiff, Nat.reduceAdd, Nat.reduceLT, Nat.reduceSub, Nat.reduceMul, Nat.reduceLeDiff, if_true, if_false, if_pos, if_neg, hH]
end Go.Proofs

/- Plain laws of permutations: what is valid, products, the lists of `permS`. -/
set_option linter.unusedVariables false
namespace Go.Proofs
open Go.AI
theorem seenL_iff (n : Int) : ∀ (l : List Int) (bs : List Bool), n ≤ bs.length → (seenL n l bs = true ↔ (∀ x ∈ l, 0 ≤ x ∧ x < n ∧ bs.getD x.toNat false = false) ∧ l.Nodup)
  | [], bs, hn => by simp [seenL]
  | x :: r, bs, hn => by
    simp only [seenL]
    by_cases h1 : x < 0
    · rw [if_pos h1]
      constructor
      · intro h; cases h
      · rintro ⟨h, _⟩
        have := (h x (by simp)).1
        omega
    by_cases h2 : n ≤ x
    · rw [if_neg h1, if_pos h2]
      constructor
      · intro h; cases h
      · rintro ⟨h, _⟩
        have := (h x (by simp)).2.1
        omega
    rw [if_neg h1, if_neg h2]
    cases h3 : bs.getD x.toNat false with
    | true =>
      rw [if_pos rfl]
      constructor
      · intro h; cases h
      · rintro ⟨h, _⟩
        have := (h x (by simp)).2.2
        rw [h3] at this; cases this
    | false =>
      rw [if_neg (by simp), seenL_iff n r _ (by simpa using hn)]
      have hg : ∀ y : Int, 0 ≤ y → y < n → ((bs.set x.toNat true).getD y.toNat false = false ↔ (y ≠ x ∧ bs.getD y.toNat false = false)) := by
        intro y hy hy'
        by_cases e : y = x
        · subst e
          have : y.toNat < bs.length := by omega
          simp [List.getD_eq_getElem?_getD, List.getElem?_set_self, this]
        · have : x.toNat ≠ y.toNat := by omega
          simp only [List.getD_eq_getElem?_getD, List.getElem?_set_ne this, ne_eq, e, not_false_eq_true, true_and]
      constructor
      · rintro ⟨h, hd⟩
        refine ⟨fun y hy => ?_, ?_⟩
        · rcases List.mem_cons.1 hy with rfl | hy
          · exact ⟨by omega, by omega, h3⟩
          · have := h y hy
            exact ⟨this.1, this.2.1, ((hg y this.1 this.2.1).1 this.2.2).2⟩
        · refine List.nodup_cons.2 ⟨fun hx => ?_, hd⟩
          have := h x hx
          exact ((hg x this.1 this.2.1).1 this.2.2).1 rfl
      · rintro ⟨h, hd⟩
        have hd := List.nodup_cons.1 hd
        refine ⟨fun y hy => ?_, hd.2⟩
        have := h y (by simp [hy])
        exact ⟨this.1, this.2.1, (hg y this.1 this.2.1).2 ⟨fun e => hd.1 (e ▸ hy), this.2.2⟩⟩
theorem valid_iff (A : List Int) : validL A = true ↔ A.length ≤ 6 ∧ (∀ x ∈ A, 0 ≤ x ∧ x < A.length) ∧ A.Nodup := by
  unfold validL
  rw [Bool.and_eq_true, decide_eq_true_eq]
  have hz : ∀ k, [false, false, false, false, false, false].getD k false = false := by
    intro k
    rcases k with _ | _ | _ | _ | _ | _ | k <;> rfl
  constructor
  · rintro ⟨h1, h2⟩
    rw [seenL_iff _ _ _ (by simp; omega)] at h2
    exact ⟨h1, fun x hx => ⟨(h2.1 x hx).1, (h2.1 x hx).2.1⟩, h2.2⟩
  · rintro ⟨h1, h2, h3⟩
    refine ⟨h1, ?_⟩
    rw [seenL_iff _ _ _ (by simp; omega)]
    exact ⟨fun x hx => ⟨(h2 x hx).1, (h2 x hx).2, hz _⟩, h3⟩
theorem getD_mem {A : List Int} {i : Nat} (h : i < A.length) : A.getD i 0 ∈ A := by
  have : A.getD i 0 = A[i] := by simp [h]
  rw [this]; exact List.getElem_mem h
theorem getD_inj {A : List Int} (hd : A.Nodup) {i j : Nat} (hi : i < A.length) (hj : j < A.length) (h : A.getD i 0 = A.getD j 0) : i = j := by
  have e1 : A.getD i 0 = A[i] := by simp [hi]
  have e2 : A.getD j 0 = A[j] := by simp [hj]
  rw [e1, e2] at h
  rcases Nat.lt_trichotomy i j with hlt | he | hlt
  · exact absurd h (List.pairwise_iff_getElem.1 hd i j hi hj hlt)
  · exact he
  · exact absurd h.symm (List.pairwise_iff_getElem.1 hd j i hj hi hlt)
theorem mulP_getD {A C : List Int} {i : Nat} (h : i < A.length) : (mulP A C).getD i 0 = A.getD (C.getD i 0).toNat 0 := by simp [mulP, h]
theorem mulP_valid {A C : List Int} (hA : validL A = true) (hC : validL C = true) (hl : A.length = C.length) : validL (mulP A C) = true := by
  have vA := (valid_iff A).1 hA
  have vC := (valid_iff C).1 hC
  rw [valid_iff]
  refine ⟨by rw [mulP_length]; exact vA.1, fun x hx => ?_, ?_⟩
  · rw [mulP_length]
    simp only [mulP, List.mem_map, List.mem_range] at hx
    obtain ⟨j, hj, rfl⟩ := hx
    have := valid_range hC (i := j) (by omega)
    exact valid_range hA (by omega)
  · unfold mulP
    rw [List.Nodup, List.pairwise_map]
    refine List.Pairwise.imp_of_mem ?_ (List.nodup_range (n := A.length))
    intro i j hi hj hne h
    simp only [List.mem_range] at hi hj
    have r1 := valid_range hC (i := i) (by omega)
    have r2 := valid_range hC (i := j) (by omega)
    have := getD_inj vA.2.2 (by omega) (by omega) h
    exact hne (getD_inj vC.2.2 (by omega) (by omega) (by omega))
theorem mulP_assoc {A C D : List Int} (hl : A.length = C.length) (hl' : C.length = D.length) (hD : validL D = true) : mulP (mulP A C) D = mulP A (mulP C D) := by
  apply List.ext_getElem (by simp [mulP_length])
  intro i h1 h2
  rw [mulP_length, mulP_length] at h1
  have r := valid_range hD (i := i) (by omega)
  have e1 : (mulP (mulP A C) D)[i] = (mulP (mulP A C) D).getD i 0 := by simp [mulP_length, h1]
  have e2 : (mulP A (mulP C D))[i] = (mulP A (mulP C D)).getD i 0 := by simp [mulP_length, h1]
  rw [e1, e2, mulP_getD (by rw [mulP_length]; omega), mulP_getD (by omega), mulP_getD (by omega), mulP_getD (by omega)]
/-- All lists that `permS` may make. -/
def allP : Nat → List (List Int)
  | 0 => [[]]
  | i + 1 => (allP i).flatMap fun l => (List.range (i + 1)).map fun k => putP l k i
theorem permS_mem (A : List Int) : ∀ n, permS A n ∈ allP n
  | 0 => by simp [allP, permS]
  | i + 1 => by
    simp only [allP, permS, List.mem_flatMap, List.mem_map, List.mem_range]
    refine ⟨permS A i, permS_mem A i, _, ?_, rfl⟩
    split
    · have h1 := Int.emod_nonneg (A.getD i 0) (show (i : Int) + 1 ≠ 0 by omega)
      have h2 := Int.emod_lt_of_pos (A.getD i 0) (show (0 : Int) < (i : Int) + 1 by omega)
      omega
    · omega
theorem allP_valid : ((List.range 7).all fun n => (allP n).all validL) = true := by kernel_rfl
theorem permS_valid (A : List Int) {n : Nat} (h : n ≤ 6) : validL (permS A n) = true := by
  have h1 := List.all_eq_true.1 allP_valid n (by simp; omega)
  exact List.all_eq_true.1 h1 _ (permS_mem A n)
end Go.Proofs

/- Plain laws: what permutations generate. -/
set_option linter.unusedVariables false
namespace Go.Proofs
open Go.AI
/-- What the lists of G generate. -/
inductive Reach (G : List (List Int)) (n : Nat) : List Int → Prop
  | one : Reach G n (idP n)
  | step {a g : List Int} : Reach G n a → g ∈ G → Reach G n (mulP g a)
def PermN (n : Nat) (x : List Int) : Prop := validL x = true ∧ x.length = n
theorem idP_all : ((List.range 7).all fun n => validL (idP n)) = true := by kernel_rfl
theorem idP_perm {n : Nat} (h : n ≤ 6) : PermN n (idP n) := ⟨List.all_eq_true.1 idP_all n (by simp; omega), idP_length n⟩
theorem mulP_perm {n : Nat} {x y : List Int} (hx : PermN n x) (hy : PermN n y) : PermN n (mulP x y) := ⟨mulP_valid hx.1 hy.1 (by rw [hx.2, hy.2]), by rw [mulP_length]; exact hx.2⟩
theorem reach_perm {G : List (List Int)} {n : Nat} (hn : n ≤ 6) (hG : ∀ g ∈ G, PermN n g) {x : List Int} (h : Reach G n x) : PermN n x := by
  induction h with
  | one => exact idP_perm hn
  | step _ hg ih => exact mulP_perm (hG _ hg) ih
theorem enum_len : ((List.range 7).all fun n => decide ((enumL n n six).length ≤ 720)) = true := by kernel_rfl
/-- There are at most 720 of them. -/
theorem perm_count {n : Nat} (hn : n ≤ 6) {L : List (List Int)} (hd : L.Nodup) (h : ∀ x ∈ L, PermN n x) : L.length ≤ 720 := by
  have h1 := List.all_eq_true.1 enum_len n (by simp; omega)
  have h2 := List.Nodup.length_le_of_subset hd (l₂ := enumL n n six) (fun x hx => by
    obtain ⟨v, l⟩ := h x hx
    simp only [validL, Bool.and_eq_true, decide_eq_true_eq] at v
    have := mem_enum x.length x _ v.2
    rw [l] at this
    exact this)
  have h3 : (enumL n n six).length ≤ 720 := by simpa using h1
  omega
theorem Asc.nodup {L : List (List Int)} (h : Asc L) : L.Nodup := by
  rw [List.Nodup, List.pairwise_iff_getElem]
  intro i j hi hj hij e
  have := h i j hij hj
  have e1 : gt L i = L[i] := by simp [gt, hi]
  have e2 : gt L j = L[j] := by simp [gt, hj]
  rw [e1, e2, e, lexC_self] at this
  omega
theorem asc_pairwise {L : List (List Int)} : Asc L ↔ L.Pairwise fun x y => lexC x y < 0 := by
  rw [List.pairwise_iff_getElem]
  constructor
  · intro h i j hi hj hij
    have := h i j hij hj
    have e1 : gt L i = L[i] := by simp [gt, hi]
    have e2 : gt L j = L[j] := by simp [gt, hj]
    rwa [e1, e2] at this
  · intro h i j hij hj
    have hi : i < L.length := by omega
    have e1 : gt L i = L[i] := by simp [gt, hi]
    have e2 : gt L j = L[j] := by simp [gt, hj]
    rw [e1, e2]
    exact h i j hi hj hij
/-- Two ascending lists with the same elements. -/
theorem asc_unique {L L' : List (List Int)} (h : Asc L) (h' : L'.Pairwise (le' lexC)) (hd : L'.Nodup) (hm : ∀ x, x ∈ L ↔ x ∈ L') : L' = L := by
  have hp : L'.Perm L := (List.perm_ext_iff_of_nodup hd h.nodup).2 fun x => (hm x).symm
  refine List.Perm.eq_of_pairwise (le := le' lexC) (fun a b _ _ h1 h2 => le_antisymm h1 h2) h' ?_ hp
  exact (asc_pairwise.1 h).imp fun h => lex_cmp.asym _ _ h
/-- A place in an ascending list. -/
def insP (L : List (List Int)) (b : List Int) : List (List Int) := L.take (placeL L b) ++ [b] ++ L.drop (placeL L b)
theorem mem_insP {L : List (List Int)} {b x : List Int} : x ∈ insP L b ↔ x ∈ L ∨ x = b := by
  unfold insP
  have e : x ∈ L ↔ x ∈ L.take (placeL L b) ∨ x ∈ L.drop (placeL L b) := by
    rw [← List.mem_append, List.take_append_drop]
  simp only [List.mem_append, List.mem_singleton]
  rw [e]
  constructor
  · rintro ((h | h) | h)
    · exact Or.inl (Or.inl h)
    · exact Or.inr h
    · exact Or.inl (Or.inr h)
  · rintro ((h | h) | h)
    · exact Or.inl (Or.inl h)
    · exact Or.inr h
    · exact Or.inl (Or.inr h)
theorem insP_length (L : List (List Int)) (b : List Int) : (insP L b).length = L.length + 1 := by
  have := placeL_le L b
  simp [insP]; omega
theorem insP_asc {L : List (List Int)} {b : List Int} (h : Asc L) (hb : b ∉ L) : Asc (insP L b) := by
  obtain ⟨h1, h2⟩ := place_spec (b := b) h
  have hk := placeL_le L b
  rw [asc_pairwise] at h ⊢
  unfold insP
  rw [← List.take_append_drop (placeL L b) L] at h
  rw [List.pairwise_append] at h
  obtain ⟨a1, a2, a3⟩ := h
  have m1 : ∀ x ∈ L.take (placeL L b), lexC x b < 0 := by
    intro x hx
    obtain ⟨j, hj⟩ := List.mem_iff_getElem?.1 hx
    rw [List.getElem?_take] at hj
    split at hj
    · rename_i hlt
      have hjl := lt_of_get hj
      rw [gt_some hjl] at hj
      cases hj
      exact ltL_iff.1 (h1 j hlt)
    · cases hj
  have m2 : ∀ x ∈ L.drop (placeL L b), lexC b x < 0 := by
    intro x hx
    obtain ⟨j, hj⟩ := List.mem_iff_getElem?.1 hx
    rw [List.getElem?_drop] at hj
    have hjl := lt_of_get hj
    rw [gt_some hjl] at hj
    have h3 := h2 _ (show placeL L b ≤ placeL L b + j by omega) hjl
    injection hj with hj
    rw [hj] at h3
    have h4 : ¬ lexC x b < 0 := fun e => by rw [← ltL_iff, h3] at e; cases e
    have h5 : x ≠ b := fun e => hb (by rw [← e]; exact List.mem_of_mem_drop hx)
    have h6 := lexC_anti x b
    rcases Int.lt_trichotomy (lexC x b) 0 with e | e | e
    · exact absurd e h4
    · exact absurd (lexC_eq e) h5
    · omega
  rw [List.append_assoc, List.pairwise_append]
  refine ⟨a1, ?_, fun x hx y hy => ?_⟩
  · rw [List.singleton_append, List.pairwise_cons]
    exact ⟨m2, a2⟩
  · rcases List.mem_append.1 hy with hy | hy
    · rw [List.mem_singleton.1 hy]; exact m1 x hx
    · exact a3 x hx y hy
end Go.Proofs

/- monomial.Degree, Valid; the reference's Degree, Valid. -/
set_option linter.unusedVariables false
set_option linter.unusedSimpArgs false
set_option linter.unusedSectionVars false
namespace Go.Proofs
open Go.AI
set_option maxRecDepth 20000
/-- The sum of exponents, each from 0 to 24. -/
def dgS : List Int → Int → Option Int
  | [], d => some d
  | x :: r, d => if x < 0 then none else if 24 < x then none else dgS r (d + x)
def dgR : List Int → Int → Option Int
  | [], d => some d
  | x :: r, d => if x < 0 then none else if 24 - d < x then none else dgR r (d + x)
def degL (A : List Int) : Int := if A.length ≤ 6 then match dgS A 0 with | some d => if 24 < d then -1 else d | none => -1 else -1
theorem dgS_ge : ∀ (A : List Int) (d d' : Int), dgS A d = some d' → d ≤ d' ∧ d' ≤ d + 24 * A.length
  | [], d, d', h => by cases h; simp
  | x :: r, d, d', h => by
    simp only [dgS] at h
    split at h
    · cases h
    · split at h
      · cases h
      · have := dgS_ge r _ _ h
        simp only [List.length_cons]
        omega
theorem dgR_eq : ∀ (A : List Int) (d : Int), 0 ≤ d → d ≤ 24 → dgR A d = match dgS A d with | some d' => if 24 < d' then none else some d' | none => none
  | [], d, h0, h => by simp [dgS, dgR]; omega
  | x :: r, d, h0, h => by
    simp only [dgS, dgR]
    by_cases h1 : x < 0
    · simp [h1]
    · by_cases h2 : 24 < x
      · have : 24 - d < x := by omega
        simp [h1, h2, this]
      · by_cases h3 : 24 - d < x
        · simp only [h1, h2, h3, if_true, if_false]
          cases h4 : dgS r (d + x) with
          | none => rfl
          | some d' =>
            have := (dgS_ge r _ _ h4).1
            have : 24 < d' := by omega
            simp [this]
        · simp only [h1, h2, h3, if_false]
          exact dgR_eq r (d + x) (by omega) (by omega)
theorem get_some {l : List Int} {i : Nat} (h : i < l.length) : l[i]? = some (l.getD i 0) := by simp [h]
theorem drop_get {l : List Int} {i : Nat} (h : i < l.length) : l.drop i = l.getD i 0 :: l.drop (i + 1) := by
  rw [List.drop_eq_getElem_cons h]; simp [h]
section
variable {a : Code} (h : loopOf 0 Try.f50 = some a) {A : List Int} (hA : A.length ≤ 6)
include h hA
def s50 (A : List Int) (i : Nat) (d : Int) : St := ([(3, I d), (9, Is A), (10, I A.length), (11, I i)], [])
theorem r50a {i : Nat} {d : Int} (hi : i < A.length) (hd : 0 ≤ d) (hd' : d ≤ 24 * i) (h1 : ¬ A.getD i 0 < 0) (h2 : ¬ 24 < A.getD i 0) : roundA Try.cfg 50 iter (call Try.cfg) 0 a (s50 A i d) = some (.normal, s50 A (i + 1) (d + A.getD i 0)) := by
  have hx := get_some hi
  cases h
  generalize A.getD i 0 = x at *
  simp -implicitDefEqProofs (disch := omega) only [push_cast, ↓dstAt_zero, ↓dstAt_succ, ↓arun_skip, ↓arun_region, ↓arun_seq, ↓arun_cond, ↓arun_block, ↓arun_loop, ↓arun_exit, ↓arun_ret, aops_nil, aops_cons, aops_cons_guard, ↓putA_some, ↓putA_none, ↓aop_move, ↓aop_assign, ↓aop_pick, ↓aop_alloc, ↓aop_box, ↓aop_build, ↓aop_buildSlice, ↓aop_load, ↓aop_store, ↓aop_nilCheck, ↓aop_binOp, ↓aop_unOp, ↓aop_convert, ↓aop_makeSlice, ↓aop_fieldAddr, ↓aop_field, ↓aop_indexAddr, ↓aop_index, ↓aop_lookup, ↓aop_mapUpdate, ↓aop_insert, ↓aop_extract, ↓aop_callB, ↓aop_callF, ↓aop_callT, ↓aop_makeFunc, ↓aop_makeMap, ↓aop_slice, ↓aevs_nil, ↓aevs_cons, ↓evP_nil, ↓evP_cons, ↓aevO_none, ↓aevO_some, ↓reduceIte, reduceCtorEq, Nat.reduceEqDiff, Nat.reduceAdd, Nat.reduceLT, Nat.reduceSub, Nat.reduceMul, Nat.reduceLeDiff, if_true, if_false, if_pos, if_neg, s50, hx]
  try rfl
theorem r50b {i : Nat} {d : Int} (hi : i < A.length) (h1 : A.getD i 0 < 0) : roundA Try.cfg 50 iter (call Try.cfg) 0 a (s50 A i d) = some (.ret, [(2, I (-1))], []) := by
  have hx := get_some hi
  cases h
  generalize A.getD i 0 = x at *
  simp -implicitDefEqProofs (disch := omega) only [push_cast, ↓dstAt_zero, ↓dstAt_succ, ↓arun_skip, ↓arun_region, ↓arun_seq, ↓arun_cond, ↓arun_block, ↓arun_loop, ↓arun_exit, ↓arun_ret, aops_nil, aops_cons, aops_cons_guard, ↓putA_some, ↓putA_none, ↓aop_move, ↓aop_assign, ↓aop_pick, ↓aop_alloc, ↓aop_box, ↓aop_build, ↓aop_buildSlice, ↓aop_load, ↓aop_store, ↓aop_nilCheck, ↓aop_binOp, ↓aop_unOp, ↓aop_convert, ↓aop_makeSlice, ↓aop_fieldAddr, ↓aop_field, ↓aop_indexAddr, ↓aop_index, ↓aop_lookup, ↓aop_mapUpdate, ↓aop_insert, ↓aop_extract, ↓aop_callB, ↓aop_callF, ↓aop_callT, ↓aop_makeFunc, ↓aop_makeMap, ↓aop_slice, ↓aevs_nil, ↓aevs_cons, ↓evP_nil, ↓evP_cons, ↓aevO_none, ↓aevO_some, ↓reduceIte, reduceCtorEq, Nat.reduceEqDiff, Nat.reduceAdd, Nat.reduceLT, Nat.reduceSub, Nat.reduceMul, Nat.reduceLeDiff, if_true, if_false, if_pos, if_neg, s50, hx]
theorem r50c {i : Nat} {d : Int} (hi : i < A.length) (h1 : ¬ A.getD i 0 < 0) (h2 : 24 < A.getD i 0) : roundA Try.cfg 50 iter (call Try.cfg) 0 a (s50 A i d) = some (.ret, [(2, I (-1))], []) := by
  have hx := get_some hi
  cases h
  generalize A.getD i 0 = x at *
  simp -implicitDefEqProofs (disch := omega) only [push_cast, ↓dstAt_zero, ↓dstAt_succ, ↓arun_skip, ↓arun_region, ↓arun_seq, ↓arun_cond, ↓arun_block, ↓arun_loop, ↓arun_exit, ↓arun_ret, aops_nil, aops_cons, aops_cons_guard, ↓putA_some, ↓putA_none, ↓aop_move, ↓aop_assign, ↓aop_pick, ↓aop_alloc, ↓aop_box, ↓aop_build, ↓aop_buildSlice, ↓aop_load, ↓aop_store, ↓aop_nilCheck, ↓aop_binOp, ↓aop_unOp, ↓aop_convert, ↓aop_makeSlice, ↓aop_fieldAddr, ↓aop_field, ↓aop_indexAddr, ↓aop_index, ↓aop_lookup, ↓aop_mapUpdate, ↓aop_insert, ↓aop_extract, ↓aop_callB, ↓aop_callF, ↓aop_callT, ↓aop_makeFunc, ↓aop_makeMap, ↓aop_slice, ↓aevs_nil, ↓aevs_cons, ↓evP_nil, ↓evP_cons, ↓aevO_none, ↓aevO_some, ↓reduceIte, reduceCtorEq, Nat.reduceEqDiff, Nat.reduceAdd, Nat.reduceLT, Nat.reduceSub, Nat.reduceMul, Nat.reduceLeDiff, if_true, if_false, if_pos, if_neg, s50, hx]
theorem r50e {d : Int} : roundA Try.cfg 50 iter (call Try.cfg) 0 a (s50 A A.length d) = some (.exit 0, [(3, I d)], []) := by
  cases h
  simp -implicitDefEqProofs (disch := omega) only [push_cast, ↓dstAt_zero, ↓dstAt_succ, ↓arun_skip, ↓arun_region, ↓arun_seq, ↓arun_cond, ↓arun_block, ↓arun_loop, ↓arun_exit, ↓arun_ret, aops_nil, aops_cons, aops_cons_guard, ↓putA_some, ↓putA_none, ↓aop_move, ↓aop_assign, ↓aop_pick, ↓aop_alloc, ↓aop_box, ↓aop_build, ↓aop_buildSlice, ↓aop_load, ↓aop_store, ↓aop_nilCheck, ↓aop_binOp, ↓aop_unOp, ↓aop_convert, ↓aop_makeSlice, ↓aop_fieldAddr, ↓aop_field, ↓aop_indexAddr, ↓aop_index, ↓aop_lookup, ↓aop_mapUpdate, ↓aop_insert, ↓aop_extract, ↓aop_callB, ↓aop_callF, ↓aop_callT, ↓aop_makeFunc, ↓aop_makeMap, ↓aop_slice, ↓aevs_nil, ↓aevs_cons, ↓evP_nil, ↓evP_cons, ↓aevO_none, ↓aevO_some, ↓reduceIte, reduceCtorEq, Nat.reduceEqDiff, Nat.reduceAdd, Nat.reduceLT, Nat.reduceSub, Nat.reduceMul, Nat.reduceLeDiff, if_true, if_false, if_pos, if_neg, s50, Int.lt_irrefl]
theorem l50 : ∀ (k i : Nat) (d : Int), i + k = A.length → 0 ≤ d → d ≤ 24 * i → iter (roundA Try.cfg 50 iter (call Try.cfg) 0 a) (s50 A i d) = some (match dgS (A.drop i) d with | some d' => (.exit 0, [(3, I d')], []) | none => (.ret, [(2, I (-1))], []))
  | 0, i, d, hi, h0, hd => by
    have e : i = A.length := by omega
    subst e
    rw [List.drop_length]
    exact iter_last (r50e h hA) (by simp [dgS])
  | k + 1, i, d, hi, h0, hd => by
    rw [drop_get (by omega)]
    simp only [dgS]
    by_cases h1 : A.getD i 0 < 0
    · simp only [h1, if_true]
      exact iter_last (r50b h hA (by omega) h1) (by simp)
    · by_cases h2 : 24 < A.getD i 0
      · simp only [h1, h2, if_true, if_false]
        exact iter_last (r50c h hA (by omega) h1 h2) (by simp)
      · simp only [h1, h2, if_false]
        exact iter_normal (r50a h hA (by omega) h0 hd h1 h2) (l50 k (i + 1) _ (by omega) (by omega) (by omega))
end
theorem call50 {A : List Int} (hA : A.length ≤ 1000) : call Try.cfg 50 [.sl false A.length (A.map I)] [] = some (.v (.int .i64 (degL A)), []) := by
  refine call_step ?_
  by_cases h6 : A.length ≤ 6
  · cases hl : loopOf 0 Try.f50 with
    | none => cases hl
    | some a =>
      have hH := l50 hl h6 A.length 0 0 (by omega) (by omega) (by omega)
      have e : degL A = match dgS A 0 with | some d => if 24 < d then -1 else d | none => -1 := by simp [degL, h6]
      rw [e]
      rw [List.drop_zero] at hH
      cases hl
      cases hd : dgS A 0 with
      | none =>
        rw [hd] at hH
        simp only [s50, Is, Int.natCast_zero] at hH
        simp -implicitDefEqProofs (disch := omega) only [stepA, bodyA, Try.f50, push_cast, ↓dstAt_zero, ↓dstAt_succ, ↓arun_skip, ↓arun_region, ↓arun_seq, ↓arun_cond, ↓arun_block, ↓arun_loop, ↓arun_exit, ↓arun_ret, aops_nil, aops_cons, aops_cons_guard, ↓putA_some, ↓putA_none, ↓aop_move, ↓aop_assign, ↓aop_pick, ↓aop_alloc, ↓aop_box, ↓aop_build, ↓aop_buildSlice, ↓aop_load, ↓aop_store, ↓aop_nilCheck, ↓aop_binOp, ↓aop_unOp, ↓aop_convert, ↓aop_makeSlice, ↓aop_fieldAddr, ↓aop_field, ↓aop_indexAddr, ↓aop_index, ↓aop_lookup, ↓aop_mapUpdate, ↓aop_insert, ↓aop_extract, ↓aop_callB, ↓aop_callF, ↓aop_callT, ↓aop_makeFunc, ↓aop_makeMap, ↓aop_slice, ↓aevs_nil, ↓aevs_cons, ↓evP_nil, ↓evP_cons, ↓aevO_none, ↓aevO_some, ↓reduceIte, reduceCtorEq, Nat.reduceEqDiff, Nat.reduceAdd, Nat.reduceLT, Nat.reduceSub, Nat.reduceMul, Nat.reduceLeDiff, if_true, if_false, if_pos, if_neg, hH]
      | some d =>
        rw [hd] at hH
        simp only [s50, Is, Int.natCast_zero] at hH
        by_cases h24 : 24 < d
        · simp -implicitDefEqProofs (disch := omega) only [stepA, bodyA, Try.f50, push_cast, ↓dstAt_zero, ↓dstAt_succ, ↓arun_skip, ↓arun_region, ↓arun_seq, ↓arun_cond, ↓arun_block, ↓arun_loop, ↓arun_exit, ↓arun_ret, aops_nil, aops_cons, aops_cons_guard, ↓putA_some, ↓putA_none, ↓aop_move, ↓aop_assign, ↓aop_pick, ↓aop_alloc, ↓aop_box, ↓aop_build, ↓aop_buildSlice, ↓aop_load, ↓aop_store, ↓aop_nilCheck, ↓aop_binOp, ↓aop_unOp, ↓aop_convert, ↓aop_makeSlice, ↓aop_fieldAddr, ↓aop_field, ↓aop_indexAddr, ↓aop_index, ↓aop_lookup, ↓aop_mapUpdate, ↓aop_insert, ↓aop_extract, ↓aop_callB, ↓aop_callF, ↓aop_callT, ↓aop_makeFunc, ↓aop_makeMap, ↓aop_slice, ↓aevs_nil, ↓aevs_cons, ↓evP_nil, ↓evP_cons, ↓aevO_none, ↓aevO_some, ↓reduceIte, reduceCtorEq, Nat.reduceEqDiff, Nat.reduceAdd, Nat.reduceLT, Nat.reduceSub, Nat.reduceMul, Nat.reduceLeDiff, if_true, if_false, if_pos, if_neg, hH]
        · simp -implicitDefEqProofs (disch := omega) only [stepA, bodyA, Try.f50, push_cast, ↓dstAt_zero, ↓dstAt_succ, ↓arun_skip, ↓arun_region, ↓arun_seq, ↓arun_cond, ↓arun_block, ↓arun_loop, ↓arun_exit, ↓arun_ret, aops_nil, aops_cons, aops_cons_guard, ↓putA_some, ↓putA_none, ↓aop_move, ↓aop_assign, ↓aop_pick, ↓aop_alloc, ↓aop_box, ↓aop_build, ↓aop_buildSlice, ↓aop_load, ↓aop_store, ↓aop_nilCheck, ↓aop_binOp, ↓aop_unOp, ↓aop_convert, ↓aop_makeSlice, ↓aop_fieldAddr, ↓aop_field, ↓aop_indexAddr, ↓aop_index, ↓aop_lookup, ↓aop_mapUpdate, ↓aop_insert, ↓aop_extract, ↓aop_callB, ↓aop_callF, ↓aop_callT, ↓aop_makeFunc, ↓aop_makeMap, ↓aop_slice, ↓aevs_nil, ↓aevs_cons, ↓evP_nil, ↓evP_cons, ↓aevO_none, ↓aevO_some, ↓reduceIte, reduceCtorEq, Nat.reduceEqDiff, Nat.reduceAdd, Nat.reduceLT, Nat.reduceSub, Nat.reduceMul, Nat.reduceLeDiff, if_true, if_false, if_pos, if_neg, hH]
  · have e : degL A = -1 := by simp [degL, h6]
    rw [e]
    simp -implicitDefEqProofs (disch := omega) only [stepA, bodyA, Try.f50, push_cast, ↓dstAt_zero, ↓dstAt_succ, ↓arun_skip, ↓arun_region, ↓arun_seq, ↓arun_cond, ↓arun_block, ↓arun_loop, ↓arun_exit, ↓arun_ret, aops_nil, aops_cons, aops_cons_guard, ↓putA_some, ↓putA_none, ↓aop_move, ↓aop_assign, ↓aop_pick, ↓aop_alloc, ↓aop_box, ↓aop_build, ↓aop_buildSlice, ↓aop_load, ↓aop_store, ↓aop_nilCheck, ↓aop_binOp, ↓aop_unOp, ↓aop_convert, ↓aop_makeSlice, ↓aop_fieldAddr, ↓aop_field, ↓aop_indexAddr, ↓aop_index, ↓aop_lookup, ↓aop_mapUpdate, ↓aop_insert, ↓aop_extract, ↓aop_callB, ↓aop_callF, ↓aop_callT, ↓aop_makeFunc, ↓aop_makeMap, ↓aop_slice, ↓aevs_nil, ↓aevs_cons, ↓evP_nil, ↓evP_cons, ↓aevO_none, ↓aevO_some, ↓reduceIte, reduceCtorEq, Nat.reduceEqDiff, Nat.reduceAdd, Nat.reduceLT, Nat.reduceSub, Nat.reduceMul, Nat.reduceLeDiff, if_true, if_false, if_pos, if_neg]
def monV (A : List Int) : Bool := decide (0 ≤ degL A)
theorem call42 {A : List Int} (hA : A.length ≤ 1000) : call Try.cfg 42 [.sl false A.length (A.map I)] [] = some (.v (.bool (monV A)), []) := by
  refine call_step ?_
  have h := call50 hA
  simp -implicitDefEqProofs (disch := omega) only [stepA, bodyA, Try.f42, push_cast, ↓dstAt_zero, ↓dstAt_succ, ↓arun_skip, ↓arun_region, ↓arun_seq, ↓arun_cond, ↓arun_block, ↓arun_loop, ↓arun_exit, ↓arun_ret, aops_nil, aops_cons, aops_cons_guard, ↓putA_some, ↓putA_none, ↓aop_move, ↓aop_assign, ↓aop_pick, ↓aop_alloc, ↓aop_box, ↓aop_build, ↓aop_buildSlice, ↓aop_load, ↓aop_store, ↓aop_nilCheck, ↓aop_binOp, ↓aop_unOp, ↓aop_convert, ↓aop_makeSlice, ↓aop_fieldAddr, ↓aop_field, ↓aop_indexAddr, ↓aop_index, ↓aop_lookup, ↓aop_mapUpdate, ↓aop_insert, ↓aop_extract, ↓aop_callB, ↓aop_callF, ↓aop_callT, ↓aop_makeFunc, ↓aop_makeMap, ↓aop_slice, ↓aevs_nil, ↓aevs_cons, ↓evP_nil, ↓evP_cons, ↓aevO_none, ↓aevO_some, ↓reduceIte, reduceCtorEq, Nat.reduceEqDiff, Nat.reduceAdd, Nat.reduceLT, Nat.reduceSub, Nat.reduceMul, Nat.reduceLeDiff, if_true, if_false, if_pos, if_neg, h, monV]
section
variable {a : Code} (h : loopOf 0 Try.f51 = some a) {A : List Int} (hA : A.length ≤ 6)
include h hA
def s51 (A : List Int) (i : Nat) (d : Int) : St := ([(0, Is A), (3, I d), (4, I i)], [])
theorem r51a {i : Nat} {d : Int} (hi : i < A.length) (hd : 0 ≤ d) (hd' : d ≤ 24) (h1 : ¬ A.getD i 0 < 0) (h2 : ¬ 24 - d < A.getD i 0) : roundA Try.cfg 51 iter (call Try.cfg) 0 a (s51 A i d) = some (.normal, s51 A (i + 1) (d + A.getD i 0)) := by
  have hx := get_some hi
  cases h
  generalize A.getD i 0 = x at *
  simp -implicitDefEqProofs (disch := omega) only [push_cast, ↓dstAt_zero, ↓dstAt_succ, ↓arun_skip, ↓arun_region, ↓arun_seq, ↓arun_cond, ↓arun_block, ↓arun_loop, ↓arun_exit, ↓arun_ret, aops_nil, aops_cons, aops_cons_guard, ↓putA_some, ↓putA_none, ↓aop_move, ↓aop_assign, ↓aop_pick, ↓aop_alloc, ↓aop_box, ↓aop_build, ↓aop_buildSlice, ↓aop_load, ↓aop_store, ↓aop_nilCheck, ↓aop_binOp, ↓aop_unOp, ↓aop_convert, ↓aop_makeSlice, ↓aop_fieldAddr, ↓aop_field, ↓aop_indexAddr, ↓aop_index, ↓aop_lookup, ↓aop_mapUpdate, ↓aop_insert, ↓aop_extract, ↓aop_callB, ↓aop_callF, ↓aop_callT, ↓aop_makeFunc, ↓aop_makeMap, ↓aop_slice, ↓aevs_nil, ↓aevs_cons, ↓evP_nil, ↓evP_cons, ↓aevO_none, ↓aevO_some, ↓reduceIte, reduceCtorEq, Nat.reduceEqDiff, Nat.reduceAdd, Nat.reduceLT, Nat.reduceSub, Nat.reduceMul, Nat.reduceLeDiff, if_true, if_false, if_pos, if_neg, s51, hx]
  try rfl
theorem r51b {i : Nat} {d : Int} (hi : i < A.length) (h1 : A.getD i 0 < 0) : roundA Try.cfg 51 iter (call Try.cfg) 0 a (s51 A i d) = some (.ret, [(2, I (-1))], []) := by
  have hx := get_some hi
  cases h
  generalize A.getD i 0 = x at *
  simp -implicitDefEqProofs (disch := omega) only [push_cast, ↓dstAt_zero, ↓dstAt_succ, ↓arun_skip, ↓arun_region, ↓arun_seq, ↓arun_cond, ↓arun_block, ↓arun_loop, ↓arun_exit, ↓arun_ret, aops_nil, aops_cons, aops_cons_guard, ↓putA_some, ↓putA_none, ↓aop_move, ↓aop_assign, ↓aop_pick, ↓aop_alloc, ↓aop_box, ↓aop_build, ↓aop_buildSlice, ↓aop_load, ↓aop_store, ↓aop_nilCheck, ↓aop_binOp, ↓aop_unOp, ↓aop_convert, ↓aop_makeSlice, ↓aop_fieldAddr, ↓aop_field, ↓aop_indexAddr, ↓aop_index, ↓aop_lookup, ↓aop_mapUpdate, ↓aop_insert, ↓aop_extract, ↓aop_callB, ↓aop_callF, ↓aop_callT, ↓aop_makeFunc, ↓aop_makeMap, ↓aop_slice, ↓aevs_nil, ↓aevs_cons, ↓evP_nil, ↓evP_cons, ↓aevO_none, ↓aevO_some, ↓reduceIte, reduceCtorEq, Nat.reduceEqDiff, Nat.reduceAdd, Nat.reduceLT, Nat.reduceSub, Nat.reduceMul, Nat.reduceLeDiff, if_true, if_false, if_pos, if_neg, s51, hx]
theorem r51c {i : Nat} {d : Int} (hi : i < A.length) (hd : 0 ≤ d) (hd' : d ≤ 24) (h1 : ¬ A.getD i 0 < 0) (h2 : 24 - d < A.getD i 0) : roundA Try.cfg 51 iter (call Try.cfg) 0 a (s51 A i d) = some (.ret, [(2, I (-1))], []) := by
  have hx := get_some hi
  cases h
  generalize A.getD i 0 = x at *
  simp -implicitDefEqProofs (disch := omega) only [push_cast, ↓dstAt_zero, ↓dstAt_succ, ↓arun_skip, ↓arun_region, ↓arun_seq, ↓arun_cond, ↓arun_block, ↓arun_loop, ↓arun_exit, ↓arun_ret, aops_nil, aops_cons, aops_cons_guard, ↓putA_some, ↓putA_none, ↓aop_move, ↓aop_assign, ↓aop_pick, ↓aop_alloc, ↓aop_box, ↓aop_build, ↓aop_buildSlice, ↓aop_load, ↓aop_store, ↓aop_nilCheck, ↓aop_binOp, ↓aop_unOp, ↓aop_convert, ↓aop_makeSlice, ↓aop_fieldAddr, ↓aop_field, ↓aop_indexAddr, ↓aop_index, ↓aop_lookup, ↓aop_mapUpdate, ↓aop_insert, ↓aop_extract, ↓aop_callB, ↓aop_callF, ↓aop_callT, ↓aop_makeFunc, ↓aop_makeMap, ↓aop_slice, ↓aevs_nil, ↓aevs_cons, ↓evP_nil, ↓evP_cons, ↓aevO_none, ↓aevO_some, ↓reduceIte, reduceCtorEq, Nat.reduceEqDiff, Nat.reduceAdd, Nat.reduceLT, Nat.reduceSub, Nat.reduceMul, Nat.reduceLeDiff, if_true, if_false, if_pos, if_neg, s51, hx]
theorem r51e {d : Int} : roundA Try.cfg 51 iter (call Try.cfg) 0 a (s51 A A.length d) = some (.exit 0, [(3, I d)], []) := by
  cases h
  simp -implicitDefEqProofs (disch := omega) only [push_cast, ↓dstAt_zero, ↓dstAt_succ, ↓arun_skip, ↓arun_region, ↓arun_seq, ↓arun_cond, ↓arun_block, ↓arun_loop, ↓arun_exit, ↓arun_ret, aops_nil, aops_cons, aops_cons_guard, ↓putA_some, ↓putA_none, ↓aop_move, ↓aop_assign, ↓aop_pick, ↓aop_alloc, ↓aop_box, ↓aop_build, ↓aop_buildSlice, ↓aop_load, ↓aop_store, ↓aop_nilCheck, ↓aop_binOp, ↓aop_unOp, ↓aop_convert, ↓aop_makeSlice, ↓aop_fieldAddr, ↓aop_field, ↓aop_indexAddr, ↓aop_index, ↓aop_lookup, ↓aop_mapUpdate, ↓aop_insert, ↓aop_extract, ↓aop_callB, ↓aop_callF, ↓aop_callT, ↓aop_makeFunc, ↓aop_makeMap, ↓aop_slice, ↓aevs_nil, ↓aevs_cons, ↓evP_nil, ↓evP_cons, ↓aevO_none, ↓aevO_some, ↓reduceIte, reduceCtorEq, Nat.reduceEqDiff, Nat.reduceAdd, Nat.reduceLT, Nat.reduceSub, Nat.reduceMul, Nat.reduceLeDiff, if_true, if_false, if_pos, if_neg, s51, Int.lt_irrefl]
theorem l51 : ∀ (k i : Nat) (d : Int), i + k = A.length → 0 ≤ d → d ≤ 24 → iter (roundA Try.cfg 51 iter (call Try.cfg) 0 a) (s51 A i d) = some (match dgR (A.drop i) d with | some d' => (.exit 0, [(3, I d')], []) | none => (.ret, [(2, I (-1))], []))
  | 0, i, d, hi, h0, hd => by
    have e : i = A.length := by omega
    subst e
    rw [List.drop_length]
    exact iter_last (r51e h hA) (by simp [dgR])
  | k + 1, i, d, hi, h0, hd => by
    rw [drop_get (by omega)]
    simp only [dgR]
    by_cases h1 : A.getD i 0 < 0
    · simp only [h1, if_true]
      exact iter_last (r51b h hA (by omega) h1) (by simp)
    · by_cases h2 : 24 - d < A.getD i 0
      · simp only [h1, h2, if_true, if_false]
        exact iter_last (r51c h hA (by omega) h0 hd h1 h2) (by simp)
      · simp only [h1, h2, if_false]
        exact iter_normal (r51a h hA (by omega) h0 hd h1 h2) (l51 k (i + 1) _ (by omega) (by omega) (by omega))
end
theorem call51 {A : List Int} (hA : A.length ≤ 1000) : call Try.cfg 51 [.sl false A.length (A.map I)] [] = some (.v (.int .i64 (degL A)), []) := by
  refine call_step ?_
  by_cases h6 : A.length ≤ 6
  · cases hl : loopOf 0 Try.f51 with
    | none => cases hl
    | some a =>
      have hH := l51 hl h6 A.length 0 0 (by omega) (by omega) (by omega)
      have e : degL A = match dgR A 0 with | some d => d | none => -1 := by
        rw [dgR_eq A 0 (by omega) (by omega)]
        simp only [degL, h6, if_true]
        cases dgS A 0 with
        | none => rfl
        | some d => by_cases h : 24 < d <;> simp [h]
      rw [e]
      rw [List.drop_zero] at hH
      cases hl
      cases hd : dgR A 0 with
      | none =>
        rw [hd] at hH
        simp only [s51, Is, Int.natCast_zero] at hH
        simp -implicitDefEqProofs (disch := omega) only [stepA, bodyA, Try.f51, push_cast, ↓dstAt_zero, ↓dstAt_succ, ↓arun_skip, ↓arun_region, ↓arun_seq, ↓arun_cond, ↓arun_block, ↓arun_loop, ↓arun_exit, ↓arun_ret, aops_nil, aops_cons, aops_cons_guard, ↓putA_some, ↓putA_none, ↓aop_move, ↓aop_assign, ↓aop_pick, ↓aop_alloc, ↓aop_box, ↓aop_build, ↓aop_buildSlice, ↓aop_load, ↓aop_store, ↓aop_nilCheck, ↓aop_binOp, ↓aop_unOp, ↓aop_convert, ↓aop_makeSlice, ↓aop_fieldAddr, ↓aop_field, ↓aop_indexAddr, ↓aop_index, ↓aop_lookup, ↓aop_mapUpdate, ↓aop_insert, ↓aop_extract, ↓aop_callB, ↓aop_callF, ↓aop_callT, ↓aop_makeFunc, ↓aop_makeMap, ↓aop_slice, ↓aevs_nil, ↓aevs_cons, ↓evP_nil, ↓evP_cons, ↓aevO_none, ↓aevO_some, ↓reduceIte, reduceCtorEq, Nat.reduceEqDiff, Nat.reduceAdd, Nat.reduceLT, Nat.reduceSub, Nat.reduceMul, Nat.reduceLeDiff, if_true, if_false, if_pos, if_neg, hH]
      | some d =>
        rw [hd] at hH
        simp only [s51, Is, Int.natCast_zero] at hH
        simp -implicitDefEqProofs (disch := omega) only [stepA, bodyA, Try.f51, push_cast, ↓dstAt_zero, ↓dstAt_succ, ↓arun_skip, ↓arun_region, ↓arun_seq, ↓arun_cond, ↓arun_block, ↓arun_loop, ↓arun_exit, ↓arun_ret, aops_nil, aops_cons, aops_cons_guard, ↓putA_some, ↓putA_none, ↓aop_move, ↓aop_assign, ↓aop_pick, ↓aop_alloc, ↓aop_box, ↓aop_build, ↓aop_buildSlice, ↓aop_load, ↓aop_store, ↓aop_nilCheck, ↓aop_binOp, ↓aop_unOp, ↓aop_convert, ↓aop_makeSlice, ↓aop_fieldAddr, ↓aop_field, ↓aop_indexAddr, ↓aop_index, ↓aop_lookup, ↓aop_mapUpdate, ↓aop_insert, ↓aop_extract, ↓aop_callB, ↓aop_callF, ↓aop_callT, ↓aop_makeFunc, ↓aop_makeMap, ↓aop_slice, ↓aevs_nil, ↓aevs_cons, ↓evP_nil, ↓evP_cons, ↓aevO_none, ↓aevO_some, ↓reduceIte, reduceCtorEq, Nat.reduceEqDiff, Nat.reduceAdd, Nat.reduceLT, Nat.reduceSub, Nat.reduceMul, Nat.reduceLeDiff, if_true, if_false, if_pos, if_neg, hH]
  · have e : degL A = -1 := by simp [degL, h6]
    rw [e]
    simp -implicitDefEqProofs (disch := omega) only [stepA, bodyA, Try.f51, push_cast, ↓dstAt_zero, ↓dstAt_succ, ↓arun_skip, ↓arun_region, ↓arun_seq, ↓arun_cond, ↓arun_block, ↓arun_loop, ↓arun_exit, ↓arun_ret, aops_nil, aops_cons, aops_cons_guard, ↓putA_some, ↓putA_none, ↓aop_move, ↓aop_assign, ↓aop_pick, ↓aop_alloc, ↓aop_box, ↓aop_build, ↓aop_buildSlice, ↓aop_load, ↓aop_store, ↓aop_nilCheck, ↓aop_binOp, ↓aop_unOp, ↓aop_convert, ↓aop_makeSlice, ↓aop_fieldAddr, ↓aop_field, ↓aop_indexAddr, ↓aop_index, ↓aop_lookup, ↓aop_mapUpdate, ↓aop_insert, ↓aop_extract, ↓aop_callB, ↓aop_callF, ↓aop_callT, ↓aop_makeFunc, ↓aop_makeMap, ↓aop_slice, ↓aevs_nil, ↓aevs_cons, ↓evP_nil, ↓evP_cons, ↓aevO_none, ↓aevO_some, ↓reduceIte, reduceCtorEq, Nat.reduceEqDiff, Nat.reduceAdd, Nat.reduceLT, Nat.reduceSub, Nat.reduceMul, Nat.reduceLeDiff, if_true, if_false, if_pos, if_neg]
theorem call45 {A : List Int} (hA : A.length ≤ 1000) : call Try.cfg 45 [.sl false A.length (A.map I)] [] = some (.v (.bool (monV A)), []) := by
  refine call_step ?_
  have h := call51 hA
  by_cases h6 : A.length ≤ 6
  · simp -implicitDefEqProofs (disch := omega) only [stepA, bodyA, Try.f45, push_cast, ↓dstAt_zero, ↓dstAt_succ, ↓arun_skip, ↓arun_region, ↓arun_seq, ↓arun_cond, ↓arun_block, ↓arun_loop, ↓arun_exit, ↓arun_ret, aops_nil, aops_cons, aops_cons_guard, ↓putA_some, ↓putA_none, ↓aop_move, ↓aop_assign, ↓aop_pick, ↓aop_alloc, ↓aop_box, ↓aop_build, ↓aop_buildSlice, ↓aop_load, ↓aop_store, ↓aop_nilCheck, ↓aop_binOp, ↓aop_unOp, ↓aop_convert, ↓aop_makeSlice, ↓aop_fieldAddr, ↓aop_field, ↓aop_indexAddr, ↓aop_index, ↓aop_lookup, ↓aop_mapUpdate, ↓aop_insert, ↓aop_extract, ↓aop_callB, ↓aop_callF, ↓aop_callT, ↓aop_makeFunc, ↓aop_makeMap, ↓aop_slice, ↓aevs_nil, ↓aevs_cons, ↓evP_nil, ↓evP_cons, ↓aevO_none, ↓aevO_some, ↓reduceIte, reduceCtorEq, Nat.reduceEqDiff, Nat.reduceAdd, Nat.reduceLT, Nat.reduceSub, Nat.reduceMul, Nat.reduceLeDiff, if_true, if_false, if_pos, if_neg, h, monV]
  · have e : degL A = -1 := by simp [degL, h6]
    have e2 : monV A = false := by simp [monV, e]
    rw [e2]
    simp -implicitDefEqProofs (disch := omega) only [stepA, bodyA, Try.f45, push_cast, ↓dstAt_zero, ↓dstAt_succ, ↓arun_skip, ↓arun_region, ↓arun_seq, ↓arun_cond, ↓arun_block, ↓arun_loop, ↓arun_exit, ↓arun_ret, aops_nil, aops_cons, aops_cons_guard, ↓putA_some, ↓putA_none, ↓aop_move, ↓aop_assign, ↓aop_pick, ↓aop_alloc, ↓aop_box, ↓aop_build, ↓aop_buildSlice, ↓aop_load, ↓aop_store, ↓aop_nilCheck, ↓aop_binOp, ↓aop_unOp, ↓aop_convert, ↓aop_makeSlice, ↓aop_fieldAddr, ↓aop_field, ↓aop_indexAddr, ↓aop_index, ↓aop_lookup, ↓aop_mapUpdate, ↓aop_insert, ↓aop_extract, ↓aop_callB, ↓aop_callF, ↓aop_callT, ↓aop_makeFunc, ↓aop_makeMap, ↓aop_slice, ↓aevs_nil, ↓aevs_cons, ↓evP_nil, ↓evP_cons, ↓aevO_none, ↓aevO_some, ↓reduceIte, reduceCtorEq, Nat.reduceEqDiff, Nat.reduceAdd, Nat.reduceLT, Nat.reduceSub, Nat.reduceMul, Nat.reduceLeDiff, if_true, if_false, if_pos, if_neg]
end Go.Proofs

/- ExpOf, move, Moved; exponents of six places. -/
set_option linter.unusedVariables false
set_option linter.unusedSimpArgs false
set_option linter.unusedSectionVars false
namespace Go.AI
abbrev J (n : Int) : AV := .v (.int .i32 n)
theorem wrap32 {n : Int} (h : -2147483648 ≤ n) (h' : n < 2147483648) : IntKind.i32.wrap n = n := by
  show (if (true && decide (n % 4294967296 ≥ 2147483648)) = true then n % 4294967296 - 4294967296 else n % 4294967296) = n
  simp only [Bool.true_and, decide_eq_true_eq]
  split <;> omega
theorem set_mapJ (l : List Int) (k : Nat) (x : Int) : (l.map J).set k (.v (.int .i32 x)) = (l.set k x).map J := (List.map_set ..).symm
theorem all_mapJ (l : List Int) : (l.map J).all AV.cellB = true := by
  rw [List.all_eq_true]; intro x hx; obtain ⟨y, _, rfl⟩ := List.mem_map.1 hx; rfl
theorem goodL_J (l : List Int) : goodL (l.map J) = true := by
  induction l with
  | nil => rfl
  | cons a r ih => simp only [List.map_cons, goodL, ih]; rfl
end Go.AI
namespace Go.Proofs
open Go.AI
set_option maxRecDepth 20000
/-- A list as exponents: six places. -/
def ex6 (A : List Int) : List Int := (List.range 6).map fun j => A.getD j 0
theorem ex6_length (A : List Int) : (ex6 A).length = 6 := by simp [ex6]
theorem ex6_getD (A : List Int) {i : Nat} (h : i < 6) : (ex6 A).getD i 0 = A.getD i 0 := by simp [ex6, h]
theorem ex6_inj {A C : List Int} (hA : A.length ≤ 6) (hl : A.length = C.length) (h : ex6 A = ex6 C) : A = C := by
  apply List.ext_getElem hl
  intro i h1 h2
  have e := congrArg (fun l => l.getD i 0) h
  simp only [ex6_getD A (show i < 6 by omega), ex6_getD C (show i < 6 by omega)] at e
  simpa [h1, h2] using e
theorem ex6_set {A : List Int} {k : Nat} (hk : k < A.length) (hA : A.length ≤ 6) (x : Int) : ex6 (A.set k x) = (ex6 A).set k x := by
  apply List.ext_getElem?
  intro j
  by_cases hj : j < 6
  · by_cases e : k = j
    · subst e
      rw [List.getElem?_set_self (by rw [ex6_length]; omega)]
      simp [ex6, hj, hk]
    · rw [List.getElem?_set_ne e]
      simp [ex6, hj, List.getElem?_set_ne e]
  · simp [ex6, hj]
theorem ex6_zero (n : Nat) : ex6 (List.replicate n 0) = List.replicate 6 0 := by
  apply List.ext_getElem?
  intro j
  by_cases hj : j < 6
  · by_cases e : j < n
    · rw [List.getElem?_replicate, if_pos hj]; simp [ex6, hj, e]
    · rw [List.getElem?_replicate, if_pos hj]; simp [ex6, hj, e]
  · rw [List.getElem?_replicate, if_neg hj]; simp [ex6, hj]
theorem upto_ex6 {A : List Int} (hA : A.length ≤ 6) : upto (fun j => A.getD j 0) 0 6 A.length = ex6 A := by
  apply List.map_congr_left
  intro j hj
  by_cases h : j < A.length
  · rw [if_pos h]
  · rw [if_neg h]; simp [h]
/-- Each exponent from 0 to 24. -/
theorem monV_mem {A : List Int} (h : monV A = true) : A.length ≤ 6 ∧ ∀ i, i < A.length → 0 ≤ A.getD i 0 ∧ A.getD i 0 ≤ 24 := by
  have key : ∀ (A : List Int) (d d' : Int), dgS A d = some d' → ∀ i, i < A.length → 0 ≤ A.getD i 0 ∧ A.getD i 0 ≤ 24 := by
    intro A
    induction A with
    | nil => intro d d' h i hi; simp at hi
    | cons x r ih =>
      intro d d' h i hi
      simp only [dgS] at h
      split at h
      · cases h
      · split at h
        · cases h
        · cases i with
          | zero => simp; omega
          | succ i => simpa using ih _ _ h i (by simpa using hi)
  have h : 0 ≤ degL A := of_decide_eq_true h
  unfold degL at h
  by_cases h6 : A.length ≤ 6
  · rw [if_pos h6] at h
    cases hd : dgS A 0 with
    | none => rw [hd] at h; simp at h
    | some d => exact ⟨h6, key A 0 d hd⟩
  · rw [if_neg h6] at h
    omega
section
variable {a : Code} (h : loopOf 0 Try.f43 = some a) {A : List Int} (hA : A.length ≤ 6) (hr : ∀ i, i < A.length → 0 ≤ A.getD i 0 ∧ A.getD i 0 ≤ 24)
include h hA hr
def s43 (A : List Int) (i : Nat) (es : List Int) : St := ([(1, I 24), (4, .mp 0 0 0), (6, .mp 1 0 0), (13, Is A), (14, I A.length), (15, I i)], [.cells true 0 [J 0, J 0, J 0, J 0, J 0, J 0], .cells true 0 (es.map J)])
theorem r43a {i : Nat} {es : List Int} (hi : i < A.length) (he : es.length = 6) : roundA Try.cfg 43 iter (call Try.cfg) 0 a (s43 A i es) = some (.normal, s43 A (i + 1) (es.set i (A.getD i 0))) := by
  have hx := get_some hi
  have h1 := hr i hi
  cases h
  generalize A.getD i 0 = x at *
  simp -implicitDefEqProofs (disch := omega) only [push_cast, ↓dstAt_zero, ↓dstAt_succ, ↓arun_skip, ↓arun_region, ↓arun_seq, ↓arun_cond, ↓arun_block, ↓arun_loop, ↓arun_exit, ↓arun_ret, aops_nil, aops_cons, aops_cons_guard, ↓putA_some, ↓putA_none, ↓aop_move, ↓aop_assign, ↓aop_pick, ↓aop_alloc, ↓aop_box, ↓aop_build, ↓aop_buildSlice, ↓aop_load, ↓aop_store, ↓aop_nilCheck, ↓aop_binOp, ↓aop_unOp, ↓aop_convert, ↓aop_makeSlice, ↓aop_fieldAddr, ↓aop_field, ↓aop_indexAddr, ↓aop_index, ↓aop_lookup, ↓aop_mapUpdate, ↓aop_insert, ↓aop_extract, ↓aop_callB, ↓aop_callF, ↓aop_callT, ↓aop_makeFunc, ↓aop_makeMap, ↓aop_slice, ↓aevs_nil, ↓aevs_cons, ↓evP_nil, ↓evP_cons, ↓aevO_none, ↓aevO_some, ↓reduceIte, reduceCtorEq, Nat.reduceEqDiff, Nat.reduceAdd, Nat.reduceLT, Nat.reduceSub, Nat.reduceMul, Nat.reduceLeDiff, if_true, if_false, if_pos, if_neg, s43, hx, aconv, wrap32, set_mapJ]
  try rfl
theorem r43b {es : List Int} (he : es.length = 6) : roundA Try.cfg 43 iter (call Try.cfg) 0 a (s43 A A.length es) = some (.exit 0, [(4, .mp 0 0 0), (6, .mp 1 0 0)], [.cells true 0 [J 0, J 0, J 0, J 0, J 0, J 0], .cells true 0 (es.map J)]) := by
  cases h
  simp -implicitDefEqProofs (disch := omega) only [push_cast, ↓dstAt_zero, ↓dstAt_succ, ↓arun_skip, ↓arun_region, ↓arun_seq, ↓arun_cond, ↓arun_block, ↓arun_loop, ↓arun_exit, ↓arun_ret, aops_nil, aops_cons, aops_cons_guard, ↓putA_some, ↓putA_none, ↓aop_move, ↓aop_assign, ↓aop_pick, ↓aop_alloc, ↓aop_box, ↓aop_build, ↓aop_buildSlice, ↓aop_load, ↓aop_store, ↓aop_nilCheck, ↓aop_binOp, ↓aop_unOp, ↓aop_convert, ↓aop_makeSlice, ↓aop_fieldAddr, ↓aop_field, ↓aop_indexAddr, ↓aop_index, ↓aop_lookup, ↓aop_mapUpdate, ↓aop_insert, ↓aop_extract, ↓aop_callB, ↓aop_callF, ↓aop_callT, ↓aop_makeFunc, ↓aop_makeMap, ↓aop_slice, ↓aevs_nil, ↓aevs_cons, ↓evP_nil, ↓evP_cons, ↓aevO_none, ↓aevO_some, ↓reduceIte, reduceCtorEq, Nat.reduceEqDiff, Nat.reduceAdd, Nat.reduceLT, Nat.reduceSub, Nat.reduceMul, Nat.reduceLeDiff, if_true, if_false, if_pos, if_neg, s43, Int.lt_irrefl]
end
theorem splice_all {cs : List AV} {l : List Int} (h : cs.length = 6) (hl : l.length = 6) : splice cs 0 (l.map J) = l.map J := by
  unfold splice
  split
  · rename_i y e
    have := congrArg List.length e
    simp [hl] at this
  · simp [hl, h]
theorem call43 {A : List Int} (hv : monV A = true) : call Try.cfg 43 [.sl false A.length (A.map I), .v (.int .i64 24)] [] = some (.tu [.ag ((ex6 A).map J), .v (.bool true)], []) := by
  refine call_step ?_
  obtain ⟨hA, hr⟩ := monV_mem hv
  cases hl : loopOf 0 Try.f43 with
  | none => cases hl
  | some a =>
    have hH := iter_run (S := fun i => s43 A i (upto (fun j => A.getD j 0) 0 6 i)) (fun i hi => by
      show _ = some (Ex.normal, s43 A (i + 1) (upto (fun j => A.getD j 0) 0 6 (i + 1)))
      rw [← upto_set (fun j => A.getD j 0) 0 (by omega : i < 6)]
      exact r43a hl hA hr hi (upto_length _ _ _ _)) (r43b hl hA hr (upto_length _ _ _ _)) (by simp) A.length 0 (by omega)
    cases hl
    have e1 := ex6_length A
    have e2 : splice [.v (.int .i32 0), .v (.int .i32 0), .v (.int .i32 0), .v (.int .i32 0), .v (.int .i32 0), .v (.int .i32 0)] 0 ((ex6 A).map J) = (ex6 A).map J := splice_all rfl e1
    have e3 : ((ex6 A).map J).take 6 = (ex6 A).map J := List.take_of_length_le (by simp [e1])
    have e4 := all_mapJ (ex6 A)
    have e5 := goodL_J (ex6 A)
    simp only [s43, Is, Int.natCast_zero, upto_zero, upto_ex6 hA] at hH
    simp only [splice, List.set_cons_zero, List.take_zero, List.nil_append, Nat.zero_add] at e2
    have e6 : (List.replicate 6 (0 : Int)).map J = [J 0, J 0, J 0, J 0, J 0, J 0] := rfl
    rw [e6] at hH
    simp -implicitDefEqProofs (maxSteps := 1000000) (disch := omega) only [stepA, bodyA, Try.f43, push_cast, ↓dstAt_zero, ↓dstAt_succ, ↓arun_skip, ↓arun_region, ↓arun_seq, ↓arun_cond, ↓arun_block, ↓arun_loop, ↓arun_exit, ↓arun_ret, aops_nil, aops_cons, aops_cons_guard, ↓putA_some, ↓putA_none, ↓aop_move, ↓aop_assign, ↓aop_pick, ↓aop_alloc, ↓aop_box, ↓aop_build, ↓aop_buildSlice, ↓aop_load, ↓aop_store, ↓aop_nilCheck, ↓aop_binOp, ↓aop_unOp, ↓aop_convert, ↓aop_makeSlice, ↓aop_fieldAddr, ↓aop_field, ↓aop_indexAddr, ↓aop_index, ↓aop_lookup, ↓aop_mapUpdate, ↓aop_insert, ↓aop_extract, ↓aop_callB, ↓aop_callF, ↓aop_callT, ↓aop_makeFunc, ↓aop_makeMap, ↓aop_slice, ↓aevs_nil, ↓aevs_cons, ↓evP_nil, ↓evP_cons, ↓aevO_none, ↓aevO_some, ↓reduceIte, reduceCtorEq, Nat.reduceEqDiff, Nat.reduceAdd, Nat.reduceLT, Nat.reduceSub, Nat.reduceMul, Nat.reduceLeDiff, if_true, if_false, if_pos, if_neg, hH, e1, e2, e3, e4, e5]
/-- A permutation applied to exponents: the first k places. -/
def mvF (n : Nat) (a m : List Int) : Nat → List Int
  | 0 => List.replicate n 0
  | i + 1 => (mvF n a m i).set (a.getD i 0).toNat (m.getD i 0)
theorem mvF_length (n : Nat) (a m : List Int) : ∀ i, (mvF n a m i).length = n
  | 0 => by simp [mvF]
  | i + 1 => by simp [mvF, mvF_length n a m i]
def mvP (a m : List Int) : List Int := mvF m.length a m m.length
theorem mvP_length (a m : List Int) : (mvP a m).length = m.length := mvF_length _ _ _ _
theorem mvF_ex6 {a m : List Int} (h6 : m.length ≤ 6) (hr : ∀ i, i < m.length → 0 ≤ a.getD i 0 ∧ a.getD i 0 < m.length) : ∀ i, i ≤ m.length → mvF 6 a (ex6 m) i = ex6 (mvF m.length a m i)
  | 0, hi => by simp [mvF, ex6_zero]
  | i + 1, hi => by
    have := hr i (by omega)
    simp only [mvF]
    rw [mvF_ex6 h6 hr i (by omega), ex6_getD m (by omega), ex6_set (by rw [mvF_length]; omega) (by rw [mvF_length]; omega)]
section
variable {a : Code} (h : loopOf 0 Try.f44 = some a) {A E : List Int} (hA : A.length ≤ 6) (hE : E.length = 6) (hr : ∀ i, i < A.length → 0 ≤ A.getD i 0 ∧ A.getD i 0 < 6)
include h hA hE hr
def s44 (A E : List Int) (i : Nat) (es : List Int) : St := ([(3, .mp 0 0 0), (4, .mp 1 0 0), (5, .mp 2 0 0), (8, Is A), (9, I A.length), (10, I i)], [.cells true 0 (E.map J), .cells true 0 [J 0, J 0, J 0, J 0, J 0, J 0], .cells true 0 (es.map J)])
theorem r44a {i : Nat} {es : List Int} (hi : i < A.length) (he : es.length = 6) : roundA Try.cfg 44 iter (call Try.cfg) 0 a (s44 A E i es) = some (.normal, s44 A E (i + 1) (es.set (A.getD i 0).toNat (E.getD i 0))) := by
  have hx := get_some hi
  have hy := get_some (l := E) (i := i) (by omega)
  have h1 := hr i hi
  cases h
  generalize A.getD i 0 = x at *
  generalize E.getD i 0 = y at *
  simp -implicitDefEqProofs (disch := omega) only [push_cast, ↓dstAt_zero, ↓dstAt_succ, ↓arun_skip, ↓arun_region, ↓arun_seq, ↓arun_cond, ↓arun_block, ↓arun_loop, ↓arun_exit, ↓arun_ret, aops_nil, aops_cons, aops_cons_guard, ↓putA_some, ↓putA_none, ↓aop_move, ↓aop_assign, ↓aop_pick, ↓aop_alloc, ↓aop_box, ↓aop_build, ↓aop_buildSlice, ↓aop_load, ↓aop_store, ↓aop_nilCheck, ↓aop_binOp, ↓aop_unOp, ↓aop_convert, ↓aop_makeSlice, ↓aop_fieldAddr, ↓aop_field, ↓aop_indexAddr, ↓aop_index, ↓aop_lookup, ↓aop_mapUpdate, ↓aop_insert, ↓aop_extract, ↓aop_callB, ↓aop_callF, ↓aop_callT, ↓aop_makeFunc, ↓aop_makeMap, ↓aop_slice, ↓aevs_nil, ↓aevs_cons, ↓evP_nil, ↓evP_cons, ↓aevO_none, ↓aevO_some, ↓reduceIte, reduceCtorEq, Nat.reduceEqDiff, Nat.reduceAdd, Nat.reduceLT, Nat.reduceSub, Nat.reduceMul, Nat.reduceLeDiff, if_true, if_false, if_pos, if_neg, s44, hx, hy, set_mapJ]
  try rfl
theorem r44b {es : List Int} (he : es.length = 6) : roundA Try.cfg 44 iter (call Try.cfg) 0 a (s44 A E A.length es) = some (.exit 0, [(4, .mp 1 0 0), (5, .mp 2 0 0)], [.cells true 0 (E.map J), .cells true 0 [J 0, J 0, J 0, J 0, J 0, J 0], .cells true 0 (es.map J)]) := by
  cases h
  simp -implicitDefEqProofs (disch := omega) only [push_cast, ↓dstAt_zero, ↓dstAt_succ, ↓arun_skip, ↓arun_region, ↓arun_seq, ↓arun_cond, ↓arun_block, ↓arun_loop, ↓arun_exit, ↓arun_ret, aops_nil, aops_cons, aops_cons_guard, ↓putA_some, ↓putA_none, ↓aop_move, ↓aop_assign, ↓aop_pick, ↓aop_alloc, ↓aop_box, ↓aop_build, ↓aop_buildSlice, ↓aop_load, ↓aop_store, ↓aop_nilCheck, ↓aop_binOp, ↓aop_unOp, ↓aop_convert, ↓aop_makeSlice, ↓aop_fieldAddr, ↓aop_field, ↓aop_indexAddr, ↓aop_index, ↓aop_lookup, ↓aop_mapUpdate, ↓aop_insert, ↓aop_extract, ↓aop_callB, ↓aop_callF, ↓aop_callT, ↓aop_makeFunc, ↓aop_makeMap, ↓aop_slice, ↓aevs_nil, ↓aevs_cons, ↓evP_nil, ↓evP_cons, ↓aevO_none, ↓aevO_some, ↓reduceIte, reduceCtorEq, Nat.reduceEqDiff, Nat.reduceAdd, Nat.reduceLT, Nat.reduceSub, Nat.reduceMul, Nat.reduceLeDiff, if_true, if_false, if_pos, if_neg, s44, Int.lt_irrefl]
end
theorem call44 {A E : List Int} (hA : A.length ≤ 6) (hE : E.length = 6) (hr : ∀ i, i < A.length → 0 ≤ A.getD i 0 ∧ A.getD i 0 < 6) : call Try.cfg 44 [.sl false A.length (A.map I), .ag (E.map J)] [] = some (.ag ((mvF 6 A E A.length).map J), []) := by
  refine call_step ?_
  cases hl : loopOf 0 Try.f44 with
  | none => cases hl
  | some a =>
    have hH := iter_run (S := fun i => s44 A E i (mvF 6 A E i)) (fun i hi => r44a hl hA hE hr hi (mvF_length _ _ _ _)) (r44b hl hA hE hr (mvF_length _ _ _ _)) (by simp) A.length 0 (by omega)
    cases hl
    have e1 := mvF_length 6 A E A.length
    have e2 : splice [.v (.int .i32 0), .v (.int .i32 0), .v (.int .i32 0), .v (.int .i32 0), .v (.int .i32 0), .v (.int .i32 0)] 0 ((mvF 6 A E A.length).map J) = (mvF 6 A E A.length).map J := splice_all rfl e1
    have e3 : ((mvF 6 A E A.length).map J).take 6 = (mvF 6 A E A.length).map J := List.take_of_length_le (by simp [e1])
    have e4 := all_mapJ (mvF 6 A E A.length)
    have e5 := goodL_J (mvF 6 A E A.length)
    have e7 : flat (.ag (E.map J)) = E.map J := rfl
    have e8 := all_mapJ E
    have e9 : virt (E.map J) [] = (E.map J, []) := by
      clear hH e1 e2 e3 e4 e5 e7 e8 hE
      induction E with
      | nil => rfl
      | cons x r ih => simp only [List.map_cons, virt, ih]
    have e6 : (List.replicate 6 (0 : Int)).map J = [J 0, J 0, J 0, J 0, J 0, J 0] := rfl
    simp only [s44, Is, Int.natCast_zero] at hH
    rw [show mvF 6 A E 0 = List.replicate 6 0 from rfl, e6] at hH
    generalize mvF 6 A E A.length = R at *
    simp only [splice, List.set_cons_zero, List.take_zero, List.nil_append, Nat.zero_add] at e2
    simp -implicitDefEqProofs (maxSteps := 1000000) (disch := omega) only [stepA, bodyA, Try.f44, push_cast, ↓dstAt_zero, ↓dstAt_succ, ↓arun_skip, ↓arun_region, ↓arun_seq, ↓arun_cond, ↓arun_block, ↓arun_loop, ↓arun_exit, ↓arun_ret, aops_nil, aops_cons, aops_cons_guard, ↓putA_some, ↓putA_none, ↓aop_move, ↓aop_assign, ↓aop_pick, ↓aop_alloc, ↓aop_box, ↓aop_build, ↓aop_buildSlice, ↓aop_load, ↓aop_store, ↓aop_nilCheck, ↓aop_binOp, ↓aop_unOp, ↓aop_convert, ↓aop_makeSlice, ↓aop_fieldAddr, ↓aop_field, ↓aop_indexAddr, ↓aop_index, ↓aop_lookup, ↓aop_mapUpdate, ↓aop_insert, ↓aop_extract, ↓aop_callB, ↓aop_callF, ↓aop_callT, ↓aop_makeFunc, ↓aop_makeMap, ↓aop_slice, ↓aevs_nil, ↓aevs_cons, ↓evP_nil, ↓evP_cons, ↓aevO_none, ↓aevO_some, ↓reduceIte, reduceCtorEq, Nat.reduceEqDiff, Nat.reduceAdd, Nat.reduceLT, Nat.reduceSub, Nat.reduceMul, Nat.reduceLeDiff, if_true, if_false, if_pos, if_neg, hH, e1, e2, e3, e4, e5, e8, e9]
section
variable {a : Code} (h : loopOf 0 Try.f46 = some a) {A M : List Int} (hM : M.length ≤ 1000) (hl : A.length = M.length) (hr : ∀ i, i < M.length → 0 ≤ A.getD i 0 ∧ A.getD i 0 < M.length)
include h hM hl hr
def s46 (A M : List Int) (i : Nat) (es : List Int) : St := ([(0, Is A), (1, Is M), (5, .ms 1 0 0 M.length 1), (6, I i)], [.cells true 0 [], .cells true 0 (es.map I)])
theorem r46a {i : Nat} {es : List Int} (hi : i < M.length) (he : es.length = M.length) : roundA Try.cfg 46 iter (call Try.cfg) 0 a (s46 A M i es) = some (.normal, s46 A M (i + 1) (es.set (A.getD i 0).toNat (M.getD i 0))) := by
  have hx := get_some (l := A) (i := i) (by omega)
  have hy := get_some (l := M) (i := i) (by omega)
  have h1 := hr i hi
  cases h
  generalize A.getD i 0 = x at *
  generalize M.getD i 0 = y at *
  simp -implicitDefEqProofs (disch := omega) only [push_cast, ↓dstAt_zero, ↓dstAt_succ, ↓arun_skip, ↓arun_region, ↓arun_seq, ↓arun_cond, ↓arun_block, ↓arun_loop, ↓arun_exit, ↓arun_ret, aops_nil, aops_cons, aops_cons_guard, ↓putA_some, ↓putA_none, ↓aop_move, ↓aop_assign, ↓aop_pick, ↓aop_alloc, ↓aop_box, ↓aop_build, ↓aop_buildSlice, ↓aop_load, ↓aop_store, ↓aop_nilCheck, ↓aop_binOp, ↓aop_unOp, ↓aop_convert, ↓aop_makeSlice, ↓aop_fieldAddr, ↓aop_field, ↓aop_indexAddr, ↓aop_index, ↓aop_lookup, ↓aop_mapUpdate, ↓aop_insert, ↓aop_extract, ↓aop_callB, ↓aop_callF, ↓aop_callT, ↓aop_makeFunc, ↓aop_makeMap, ↓aop_slice, ↓aevs_nil, ↓aevs_cons, ↓evP_nil, ↓evP_cons, ↓aevO_none, ↓aevO_some, ↓reduceIte, reduceCtorEq, Nat.reduceEqDiff, Nat.reduceAdd, Nat.reduceLT, Nat.reduceSub, Nat.reduceMul, Nat.reduceLeDiff, if_true, if_false, if_pos, if_neg, s46, hx, hy]
  try rfl
theorem r46b {es : List Int} (he : es.length = M.length) : roundA Try.cfg 46 iter (call Try.cfg) 0 a (s46 A M M.length es) = some (.exit 0, [(5, .ms 1 0 0 M.length 1)], [.cells true 0 [], .cells true 0 (es.map I)]) := by
  cases h
  simp -implicitDefEqProofs (disch := omega) only [push_cast, ↓dstAt_zero, ↓dstAt_succ, ↓arun_skip, ↓arun_region, ↓arun_seq, ↓arun_cond, ↓arun_block, ↓arun_loop, ↓arun_exit, ↓arun_ret, aops_nil, aops_cons, aops_cons_guard, ↓putA_some, ↓putA_none, ↓aop_move, ↓aop_assign, ↓aop_pick, ↓aop_alloc, ↓aop_box, ↓aop_build, ↓aop_buildSlice, ↓aop_load, ↓aop_store, ↓aop_nilCheck, ↓aop_binOp, ↓aop_unOp, ↓aop_convert, ↓aop_makeSlice, ↓aop_fieldAddr, ↓aop_field, ↓aop_indexAddr, ↓aop_index, ↓aop_lookup, ↓aop_mapUpdate, ↓aop_insert, ↓aop_extract, ↓aop_callB, ↓aop_callF, ↓aop_callT, ↓aop_makeFunc, ↓aop_makeMap, ↓aop_slice, ↓aevs_nil, ↓aevs_cons, ↓evP_nil, ↓evP_cons, ↓aevO_none, ↓aevO_some, ↓reduceIte, reduceCtorEq, Nat.reduceEqDiff, Nat.reduceAdd, Nat.reduceLT, Nat.reduceSub, Nat.reduceMul, Nat.reduceLeDiff, if_true, if_false, if_pos, if_neg, s46, Int.lt_irrefl]
end
theorem call46 {A M : List Int} (hM : M.length ≤ 1000) (hl : A.length = M.length) (hr : ∀ i, i < M.length → 0 ≤ A.getD i 0 ∧ A.getD i 0 < M.length) : call Try.cfg 46 [.sl false A.length (A.map I), .sl false M.length (M.map I)] [] = some (.sl false M.length ((mvP A M).map I), []) := by
  refine call_step ?_
  cases hl' : loopOf 0 Try.f46 with
  | none => cases hl'
  | some a =>
    have hH := iter_run (S := fun i => s46 A M i (mvF M.length A M i)) (fun i hi => r46a hl' hM hl hr hi (mvF_length _ _ _ _)) (r46b hl' hM hl hr (mvF_length _ _ _ _)) (by simp) M.length 0 (by omega)
    cases hl'
    have e1 := mvF_length M.length A M M.length
    simp only [s46, Is, Int.natCast_zero] at hH
    rw [show mvF M.length A M M.length = mvP A M from rfl] at hH e1
    rw [show mvF M.length A M 0 = List.replicate M.length 0 from rfl] at hH
    generalize mvP A M = R at *
    simp -implicitDefEqProofs (maxSteps := 1000000) (disch := omega) only [stepA, bodyA, Try.f46, push_cast, ↓dstAt_zero, ↓dstAt_succ, ↓arun_skip, ↓arun_region, ↓arun_seq, ↓arun_cond, ↓arun_block, ↓arun_loop, ↓arun_exit, ↓arun_ret, aops_nil, aops_cons, aops_cons_guard, ↓putA_some, ↓putA_none, ↓aop_move, ↓aop_assign, ↓aop_pick, ↓aop_alloc, ↓aop_box, ↓aop_build, ↓aop_buildSlice, ↓aop_load, ↓aop_store, ↓aop_nilCheck, ↓aop_binOp, ↓aop_unOp, ↓aop_convert, ↓aop_makeSlice, ↓aop_fieldAddr, ↓aop_field, ↓aop_indexAddr, ↓aop_index, ↓aop_lookup, ↓aop_mapUpdate, ↓aop_insert, ↓aop_extract, ↓aop_callB, ↓aop_callF, ↓aop_callT, ↓aop_makeFunc, ↓aop_makeMap, ↓aop_slice, ↓aevs_nil, ↓aevs_cons, ↓evP_nil, ↓evP_cons, ↓aevO_none, ↓aevO_some, ↓reduceIte, reduceCtorEq, Nat.reduceEqDiff, Nat.reduceAdd, Nat.reduceLT, Nat.reduceSub, Nat.reduceMul, Nat.reduceLeDiff, if_true, if_false, if_pos, if_neg, hH]
end Go.Proofs

/- Plain laws: a group's permutations move exponents; being moved to each other is an equivalence. -/
set_option linter.unusedVariables false
namespace Go.Proofs
open Go.AI
def powR (A : List Int) : Nat → List Int
  | 0 => A
  | j + 1 => mulP (powR A j) A
def ordR (A : List Int) : Bool := (List.range 6).any fun j => decide (powR A j = idP A.length)
theorem ordR_all : ((List.range 7).all fun n => (enumL n n six).all ordR) = true := by kernel_rfl
def surjOk (A : List Int) : Bool := (List.range A.length).all fun (k : Nat) => (List.range A.length).any fun i => decide (A.getD i 0 = (k : Int))
theorem surj_all : ((List.range 7).all fun n => (enumL n n six).all surjOk) = true := by kernel_rfl
theorem surj {A : List Int} (h : validL A = true) {k : Nat} (hk : k < A.length) : ∃ i, i < A.length ∧ A.getD i 0 = (k : Int) := by
  have h1 := valid_all surj_all h
  have h2 := List.all_eq_true.1 h1 k (by simpa using hk)
  obtain ⟨i, hi, he⟩ := List.any_eq_true.1 h2
  exact ⟨i, by simpa using hi, of_decide_eq_true he⟩
theorem set_getD_self {l : List Int} {k : Nat} {x : Int} (h : k < l.length) : (l.set k x).getD k 0 = x := by simp [List.getD_eq_getElem?_getD, List.getElem?_set_self h]
theorem set_getD_ne {l : List Int} {k j : Nat} {x : Int} (h : k ≠ j) : (l.set k x).getD j 0 = l.getD j 0 := by simp [List.getD_eq_getElem?_getD, List.getElem?_set_ne h]
theorem mvF_get {a m : List Int} (ha : validL a = true) (hl : a.length = m.length) : ∀ j, j ≤ m.length → ∀ i, i < j → (mvF m.length a m j).getD (a.getD i 0).toNat 0 = m.getD i 0
  | 0, _, i, hi => by omega
  | j + 1, hj, i, hi => by
    have r1 := valid_range ha (i := i) (by omega)
    have r2 := valid_range ha (i := j) (by omega)
    simp only [mvF]
    by_cases e : i = j
    · subst e
      rw [set_getD_self (by rw [mvF_length]; omega)]
    · have hne : (a.getD j 0).toNat ≠ (a.getD i 0).toNat := by
        intro h
        have := getD_inj ((valid_iff a).1 ha).2.2 (i := j) (j := i) (by omega) (by omega) (by omega)
        omega
      rw [set_getD_ne hne]
      exact mvF_get ha hl j (by omega) i (by omega)
theorem mvP_get {a m : List Int} (ha : validL a = true) (hl : a.length = m.length) {i : Nat} (hi : i < m.length) : (mvP a m).getD (a.getD i 0).toNat 0 = m.getD i 0 := mvF_get ha hl m.length (Nat.le_refl _) i hi
theorem mvP_uniq {a m X : List Int} (ha : validL a = true) (hl : a.length = m.length) (hX : X.length = m.length) (h : ∀ i, i < m.length → X.getD (a.getD i 0).toNat 0 = m.getD i 0) : X = mvP a m := by
  apply List.ext_getElem (by rw [hX, mvP_length])
  intro k h1 h2
  obtain ⟨i, hi, he⟩ := surj ha (k := k) (by omega)
  have e1 := h i (by omega)
  have e2 := mvP_get ha hl (i := i) (by omega)
  rw [he] at e1 e2
  rw [← e1] at e2
  simpa [h1, h2] using e2.symm
theorem mvP_mul {a b m : List Int} (ha : validL a = true) (hb : validL b = true) (hl : a.length = m.length) (hl' : b.length = m.length) : mvP (mulP a b) m = mvP a (mvP b m) := by
  symm
  refine mvP_uniq (mulP_valid ha hb (by omega)) (by rw [mulP_length]; exact hl) (by rw [mvP_length, mvP_length]) fun i hi => ?_
  rw [mulP_getD (by omega)]
  have r := valid_range hb (i := i) (by omega)
  have e1 := mvP_get (a := a) (m := mvP b m) ha (by rw [mvP_length]; exact hl) (i := (b.getD i 0).toNat) (by rw [mvP_length]; omega)
  rw [e1]
  exact mvP_get hb hl' hi
theorem idP_getD {n i : Nat} (h : i < n) : (idP n).getD i 0 = (i : Int) := by simp [idP, h]
theorem mvP_id {m : List Int} (h : m.length ≤ 6) : mvP (idP m.length) m = m := by
  symm
  refine mvP_uniq (idP_perm h).1 (idP_length _) rfl fun i hi => ?_
  rw [idP_getD hi]
  simp
/-- What a group has. -/
structure GrpN (G : List (List Int)) (n : Nat) : Prop where
  n6 : n ≤ 6
  perm : ∀ g ∈ G, PermN n g
  one : idP n ∈ G
  mul : ∀ a ∈ G, ∀ b ∈ G, mulP a b ∈ G
theorem isG_grp {G : List (List Int)} (h : isG G = true) : GrpN G (gt G 0).length ∧ 0 < G.length := by
  simp only [isG, Bool.and_eq_true, Bool.not_eq_true', decide_eq_false_iff_not, decide_eq_true_eq, List.all_eq_true, List.mem_range', Nat.one_mul] at h
  obtain ⟨⟨⟨h1, h2⟩, h3⟩, h4⟩ := h
  have h0 : 0 < G.length := List.length_pos_iff.2 h2
  have hp : ∀ g ∈ G, PermN (gt G 0).length g := fun g hg => by
    obtain ⟨j, hj⟩ := List.mem_iff_getElem?.1 hg
    have hjl := lt_of_get hj
    rw [gt_some hjl] at hj
    cases hj
    have := ok_len (h1 j ⟨j, hjl, by omega⟩)
    exact ⟨this.1, this.2⟩
  refine ⟨⟨valid_len (hp _ (List.mem_of_getElem? (gt_some h0))).1, hp, ?_, fun a ha b hb => ?_⟩, h0⟩
  · have := List.mem_of_getElem? (gt_some h0)
    rw [h3] at this
    exact this
  · obtain ⟨i, hi⟩ := List.mem_iff_getElem?.1 ha
    have hil := lt_of_get hi
    rw [gt_some hil] at hi
    cases hi
    obtain ⟨k, hk⟩ := List.mem_iff_getElem?.1 hb
    have hkl := lt_of_get hk
    rw [gt_some hkl] at hk
    cases hk
    have h5 := h4 i ⟨i, hil, by omega⟩
    simp only [allG, List.all_eq_true, List.mem_range', Nat.one_mul, decide_eq_true_eq] at h5
    exact h5 k ⟨k, hkl, by omega⟩
theorem GrpN.pow {G : List (List Int)} {n : Nat} (hG : GrpN G n) {a : List Int} (ha : a ∈ G) : ∀ j, powR a j ∈ G
  | 0 => ha
  | j + 1 => hG.mul _ (hG.pow ha j) _ ha
theorem GrpN.inv {G : List (List Int)} {n : Nat} (hG : GrpN G n) {a : List Int} (ha : a ∈ G) : ∃ b ∈ G, mulP b a = idP n := by
  have hp := hG.perm a ha
  have h1 := valid_all ordR_all hp.1
  obtain ⟨j, _, he⟩ := List.any_eq_true.1 h1
  have he := of_decide_eq_true he
  rw [hp.2] at he
  cases j with
  | zero => exact ⟨a, ha, by
      have e : a = idP n := he
      rw [e]
      apply List.ext_getElem (by simp [mulP_length])
      intro i h1 h2
      rw [mulP_length, idP_length] at h1
      have e1 : (mulP (idP n) (idP n))[i] = (mulP (idP n) (idP n)).getD i 0 := by simp [mulP_length, idP_length, h1]
      have e2 : (idP n)[i] = (idP n).getD i 0 := by simp [idP_length, h1]
      rw [e1, e2, mulP_getD (by rw [idP_length]; omega), idP_getD h1]
      rw [Int.toNat_natCast, idP_getD h1]⟩
  | succ j => exact ⟨powR a j, hG.pow ha j, he⟩
/-- Is y what some element of G makes of x? -/
def relG (G : List (List Int)) (x y : List Int) : Bool := (List.range' 0 G.length).any fun j => decide (mvP (gt G j) x = y)
theorem relG_iff {G : List (List Int)} {x y : List Int} : relG G x y = true ↔ ∃ g ∈ G, mvP g x = y := by
  simp only [relG, List.any_eq_true, List.mem_range', Nat.one_mul, decide_eq_true_eq]
  constructor
  · rintro ⟨i, ⟨j, hj, rfl⟩, h⟩
    exact ⟨_, List.mem_of_getElem? (gt_some (by omega)), h⟩
  · rintro ⟨g, hg, h⟩
    obtain ⟨j, hj⟩ := List.mem_iff_getElem?.1 hg
    have hjl := lt_of_get hj
    rw [gt_some hjl] at hj
    cases hj
    exact ⟨j, ⟨j, hjl, by omega⟩, h⟩
section
variable {G : List (List Int)} {n : Nat} (hG : GrpN G n)
include hG
theorem rel_refl {x : List Int} (hx : x.length = n) : relG G x x = true := relG_iff.2 ⟨_, hG.one, by
  rw [← hx]; exact mvP_id (by rw [hx]; exact hG.n6)⟩
theorem rel_symm {x y : List Int} (hx : x.length = n) (h : relG G x y = true) : relG G y x = true := by
  obtain ⟨a, ha, rfl⟩ := relG_iff.1 h
  obtain ⟨b, hb, he⟩ := hG.inv ha
  have pa := hG.perm a ha
  have pb := hG.perm b hb
  refine relG_iff.2 ⟨b, hb, ?_⟩
  rw [← mvP_mul pb.1 pa.1 (by rw [pb.2, hx]) (by rw [pa.2, hx]), he, ← hx]
  exact mvP_id (by rw [hx]; exact hG.n6)
theorem rel_trans {x y z : List Int} (hx : x.length = n) (h : relG G x y = true) (h' : relG G y z = true) : relG G x z = true := by
  obtain ⟨a, ha, rfl⟩ := relG_iff.1 h
  obtain ⟨b, hb, rfl⟩ := relG_iff.1 h'
  have pa := hG.perm a ha
  have pb := hG.perm b hb
  exact relG_iff.2 ⟨_, hG.mul b hb a ha, mvP_mul pb.1 pa.1 (by rw [pb.2, hx]) (by rw [pa.2, hx])⟩
end
/-! The orbits, as they are specified. -/
def isRep (G L : List (List Int)) (i : Nat) : Bool := (List.range i).all fun j => !relG G (gt L j) (gt L i)
def reps (G L : List (List Int)) (i : Nat) : List Nat := (List.range i).filter (isRep G L)
def cls (G L : List (List Int)) (m r : Nat) : List Int := ((List.range m).filter fun k => relG G (gt L r) (gt L k)).map fun (k : Nat) => (k : Int)
def orbs (G L : List (List Int)) (m i : Nat) : List (List Int) := (reps G L i).map (cls G L m)
theorem reps_succ (G L : List (List Int)) (i : Nat) : reps G L (i + 1) = if isRep G L i then reps G L i ++ [i] else reps G L i := by
  unfold reps
  rw [List.range_succ, List.filter_append]
  cases h : isRep G L i <;> simp [h]
theorem cls_succ (G L : List (List Int)) (m r : Nat) : cls G L (m + 1) r = if relG G (gt L r) (gt L m) then cls G L m r ++ [(m : Int)] else cls G L m r := by
  unfold cls
  rw [List.range_succ, List.filter_append]
  cases h : relG G (gt L r) (gt L m) <;> simp [h]
theorem mem_reps {G L : List (List Int)} {i r : Nat} : r ∈ reps G L i ↔ r < i ∧ ∀ j, j < r → relG G (gt L j) (gt L r) = false := by
  simp [reps, isRep, List.mem_filter]
theorem reps_sorted (G L : List (List Int)) (i : Nat) : (reps G L i).Pairwise (· < ·) := List.Pairwise.filter _ List.pairwise_lt_range
section
variable {G L : List (List Int)} {n : Nat} (hG : GrpN G n) (hL : ∀ x ∈ L, x.length = n)
include hG hL
theorem gtL_len {j : Nat} (hj : j < L.length) : (gt L j).length = n := hL _ (List.mem_of_getElem? (gt_some hj))
/-- Each monomial is in the orbit of one that is the first of its orbit. -/
theorem rep_of {i : Nat} (hi : i < L.length) (j : Nat) (hj : j < i) (h : relG G (gt L j) (gt L i) = true) : ∃ r ∈ reps G L i, relG G (gt L r) (gt L i) = true := by
  induction j using Nat.strongRecOn with
  | _ j ih =>
    by_cases hr : isRep G L j = true
    · exact ⟨j, by rw [mem_reps]; refine ⟨hj, fun k hk => ?_⟩; have := List.all_eq_true.1 hr k (by simpa using hk); simpa using this, h⟩
    · have : ∃ k, k < j ∧ relG G (gt L k) (gt L j) = true := by
        simp only [isRep, Bool.not_eq_true, List.all_eq_false, List.mem_range, Bool.not_eq_eq_eq_not, Bool.not_false] at hr
        obtain ⟨k, hk, h2⟩ := hr
        exact ⟨k, hk, by simpa using h2⟩
      obtain ⟨k, hk, h2⟩ := this
      exact ih k hk (by omega) (rel_trans hG (gtL_len hG hL (by omega)) h2 h)
theorem reps_apart {i r s x : Nat} (hi : i ≤ L.length) (hr : r ∈ reps G L i) (hs : s ∈ reps G L i) (hx : x < L.length) (h1 : relG G (gt L r) (gt L x) = true) (h2 : relG G (gt L s) (gt L x) = true) : r = s := by
  obtain ⟨a1, a2⟩ := mem_reps.1 hr
  obtain ⟨b1, b2⟩ := mem_reps.1 hs
  have lr := gtL_len hG hL (j := r) (by omega)
  have ls := gtL_len hG hL (j := s) (by omega)
  rcases Nat.lt_trichotomy r s with h | h | h
  · have := rel_trans hG lr h1 (rel_symm hG ls h2)
    rw [b2 r h] at this; cases this
  · exact h
  · have := rel_trans hG ls h2 (rel_symm hG lr h1)
    rw [a2 s h] at this; cases this
end
end Go.Proofs

/- group.Orbits: the map of exponents; the rounds of the loops. -/
set_option linter.unusedVariables false
set_option linter.unusedSimpArgs false
set_option linter.unusedSectionVars false
namespace Go.Proofs
open Go.AI
set_option maxRecDepth 20000
set_option maxHeartbeats 4000000
def mkE (p : List Int × Nat) : AV × AV := (.ag ((ex6 p.1).map J), .v (.int .i64 (p.2 : Int)))
def lkE : List (List Int × Nat) → List Int → Option Nat
  | [], _ => none
  | p :: r, x => if x = p.1 then some p.2 else lkE r x
def upE : List (List Int × Nat) → List Int → Nat → List (List Int × Nat)
  | [], x, c => [(x, c)]
  | p :: r, x, c => if x = p.1 then (x, c) :: r else p :: upE r x c
theorem lkE_upE (x y : List Int) (c : Nat) : ∀ ps, lkE (upE ps x c) y = if y = x then some c else lkE ps y
  | [] => rfl
  | p :: r => by
    unfold upE
    by_cases h : x = p.1
    · rw [if_pos h]
      by_cases h' : y = x
      · simp [lkE, h']
      · simp only [lkE, if_neg h']
        rw [if_neg (fun e => h' (by rw [e, h]))]
    · rw [if_neg h]
      unfold lkE
      rw [lkE_upE x y c r]
      by_cases h' : y = p.1
      · rw [if_pos h', if_pos h']
        rw [if_neg (fun e => h (by rw [← e]; exact h'))]
      · rw [if_neg h', if_neg h']
theorem upE_len {n : Nat} {x : List Int} (hx : x.length = n) (c : Nat) : ∀ {ps : List (List Int × Nat)}, (∀ p ∈ ps, p.1.length = n) → ∀ p ∈ upE ps x c, p.1.length = n
  | [], h, p, hp => by
    simp only [upE, List.mem_singleton] at hp
    rw [hp]; exact hx
  | q :: r, h, p, hp => by
    unfold upE at hp
    split at hp
    · rcases List.mem_cons.1 hp with rfl | hp
      · exact hx
      · exact h p (by simp [hp])
    · rcases List.mem_cons.1 hp with rfl | hp
      · exact h p (by simp)
      · exact upE_len hx c (fun p hp => h p (by simp [hp])) p hp
theorem cellsEq_J : ∀ (n : Nat) (x y : List Int), x.length = n → y.length = n → cellsEq (List.replicate n (.int .i32)) (x.map J) (y.map J) = some (decide (x = y))
  | 0, [], [], _, _ => rfl
  | n + 1, a :: x, b :: y, hx, hy => by
    have ih := cellsEq_J n x y (by simpa using hx) (by simpa using hy)
    simp only [List.replicate_succ, List.map_cons, cellsEq, cellEq, if_true, obind_some, ih]
    by_cases h : a = b
    · subst h; simp
    · have : ¬ (a :: x = b :: y) := by intro e; exact h (List.cons.inj e).1
      simp [h]
theorem aeq_E {x y : List Int} (hx : x.length ≤ 6) (hl : x.length = y.length) : aeq Try.prog 64 (.ag ((ex6 x).map J)) (.ag ((ex6 y).map J)) = some (decide (x = y)) := by
  have h := cellsEq_J 6 (ex6 x) (ex6 y) (ex6_length x) (ex6_length y)
  have e : decide (ex6 x = ex6 y) = decide (x = y) := by
    apply decide_eq_decide.2
    exact ⟨ex6_inj hx hl, fun h => by rw [h]⟩
  rw [e] at h
  unfold aeq
  simp only [Try.kinds64, obind_some]
  exact h
theorem keyOk_E {x : List Int} (hx : x.length ≤ 6) : keyOk Try.prog 64 (.ag ((ex6 x).map J)) = true := by
  unfold keyOk
  rw [aeq_E hx rfl]
  simp
theorem findA_E {n : Nat} (hn : n ≤ 6) {x : List Int} (hx : x.length = n) : ∀ {ps : List (List Int × Nat)}, (∀ p ∈ ps, p.1.length = n) → findA Try.prog 64 (.ag ((ex6 x).map J)) (ps.map mkE) = some ((lkE ps x).map fun c => .v (.int .i64 (c : Int)))
  | [], h => rfl
  | p :: r, h => by
    have ih := findA_E hn hx (ps := r) (fun p hp => h p (by simp [hp]))
    have hp := h p (by simp)
    simp only [List.map_cons, mkE, findA]
    rw [aeq_E (by omega) (by omega), obind_some]
    by_cases e : x = p.1
    · simp [lkE, e]
    · simp only [lkE, e, decide_false, Bool.false_eq_true, if_false]
      exact ih
theorem updA_E {n : Nat} (hn : n ≤ 6) {x : List Int} (hx : x.length = n) (c : Nat) : ∀ {ps : List (List Int × Nat)}, (∀ p ∈ ps, p.1.length = n) → updA Try.prog 64 (.ag ((ex6 x).map J)) (.v (.int .i64 (c : Int))) (ps.map mkE) = some ((upE ps x c).map mkE)
  | [], h => rfl
  | p :: r, h => by
    have ih := updA_E hn hx c (ps := r) (fun p hp => h p (by simp [hp]))
    have hp := h p (by simp)
    simp only [List.map_cons, mkE, updA]
    rw [aeq_E (by omega) (by omega), obind_some]
    by_cases e : x = p.1
    · simp [upE, e, mkE]
    · simp only [upE, e, decide_false, Bool.false_eq_true, if_false, List.map_cons, mkE]
      rw [ih]
      rfl
/-- The cells of the exponents read so far. -/
def exC (L : List (List Int)) (i : Nat) : List AV := (L.take i).flatMap fun m => (ex6 m).map J
theorem exC_length (L : List (List Int)) : ∀ i, i ≤ L.length → (exC L i).length = i * 6
  | 0, _ => by simp [exC]
  | i + 1, h => by
    have ih := exC_length L i (by omega)
    unfold exC at ih ⊢
    rw [List.take_add_one, List.flatMap_append, List.length_append, ih, List.getElem?_eq_getElem (by omega)]
    simp [ex6_length]; omega
theorem exC_succ {L : List (List Int)} {i : Nat} (h : i < L.length) : exC L (i + 1) = exC L i ++ (ex6 (gt L i)).map J := by
  unfold exC
  rw [List.take_add_one, List.flatMap_append, gt_some h]
  simp
theorem exC_part {L : List (List Int)} : ∀ (k i : Nat), i < k → k ≤ L.length → ((exC L k).drop (i * 6)).take 6 = (ex6 (gt L i)).map J
  | 0, i, h, _ => by omega
  | k + 1, i, h, hk => by
    rw [exC_succ (by omega)]
    have hl := exC_length L k (by omega)
    by_cases e : i = k
    · subst e
      rw [List.drop_append_of_le_length (by omega), ← hl, List.drop_length, List.nil_append]
      exact List.take_of_length_le (by simp [ex6_length])
    · rw [List.drop_append_of_le_length (by omega), List.take_append_of_le_length (by rw [List.length_drop]; omega)]
      exact exC_part k i (by omega) (by omega)
theorem underL_J (m : Nat) (l : List Int) : underL m (l.map J) = true := by
  induction l with
  | nil => rfl
  | cons a r ih => simp only [List.map_cons, underL, ih]; rfl
theorem exC_under (m : Nat) (L : List (List Int)) (i : Nat) : underL m (exC L i) = true := by
  unfold exC
  induction L.take i with
  | nil => rfl
  | cons a r ih => simp only [List.flatMap_cons, underL_app, ih, underL_J]; rfl
theorem goodL_append (a b : List AV) : goodL (a ++ b) = (goodL a && goodL b) := by
  induction a with
  | nil => simp [goodL]
  | cons x r ih => simp only [List.cons_append, goodL, ih, Bool.and_assoc]
theorem exC_good (L : List (List Int)) (i : Nat) : goodL (exC L i) = true := by
  unfold exC
  induction L.take i with
  | nil => rfl
  | cons a r ih => simp only [List.flatMap_cons, goodL_append, ih, goodL_J]; rfl
section
variable {a : Code} (h : loopOf 0 Try.f29 = some a) {G L : List (List Int)} (hL : L.length ≤ 1000) (hs : ∀ x ∈ L, x.length ≤ 1000)
include h hL hs
def s29a (G L : List (List Int)) (v i sz : Nat) (cs : List AV) : St := ([(0, Iss G), (1, Iss L), (6, .ms 1 v 0 i sz), (24, Iss L), (25, I L.length), (26, I i)], [.cells true 0 [], .cells true v cs])
theorem r29a {v i sz : Nat} (hi : i < L.length) (hv : monV (gt L i) = true) (hsz : sz = 6 ∨ sz = 0 ∧ i = 0) : roundA Try.cfg 29 iter (call Try.cfg) 0 a (s29a G L v i sz (exC L i)) = some (.normal, s29a G L (v + 1) (i + 1) 6 (exC L (i + 1))) := by
  have hx := gt_some hi
  have hl := hs _ (List.mem_of_getElem? hx)
  have h42 := call42 hl
  rw [hv] at h42
  have h43 := call43 hv
  have e1 := exC_length L i (by omega)
  have e2 := exC_succ hi
  have e3 := exC_under 2 L (i + 1)
  have e4 := ex6_length (gt L i)
  have e5 : splice [.v (.int .i32 0), .v (.int .i32 0), .v (.int .i32 0), .v (.int .i32 0), .v (.int .i32 0), .v (.int .i32 0)] 0 ((ex6 (gt L i)).map J) = (ex6 (gt L i)).map J := splice_all rfl e4
  have e6 : ((ex6 (gt L i)).map J).take 6 = (ex6 (gt L i)).map J := List.take_of_length_le (by simp [e4])
  have e7 := all_mapJ (ex6 (gt L i))
  have e8 := goodL_J (ex6 (gt L i))
  have e10 : mapC (closeA depthA []) ((ex6 (gt L i)).map J) = some ((ex6 (gt L i)).map J, []) := mapC_all [] 39 _ e8
  have e9 : (exC L i).take (i * sz) = exC L i := by
    rcases hsz with rfl | ⟨rfl, rfl⟩
    · exact List.take_of_length_le (by omega)
    · simp [exC]
  have e11 : i * sz ≤ (exC L i).length := by
    rcases hsz with rfl | ⟨rfl, rfl⟩
    · omega
    · simp
  have e12 : sz = 0 ∨ sz = 6 := by omega
  have e14 : repl 1 ([.v (.int .i32 0), .v (.int .i32 0), .v (.int .i32 0), .v (.int .i32 0), .v (.int .i32 0), .v (.int .i32 0)] : List AV) = [.v (.int .i32 0), .v (.int .i32 0), .v (.int .i32 0), .v (.int .i32 0), .v (.int .i32 0), .v (.int .i32 0)] := rfl
  cases h
  generalize hE : ex6 (gt L i) = E at *
  have e13 : splice ([.v (.int .i32 0), .v (.int .i32 0), .v (.int .i32 0), .v (.int .i32 0), .v (.int .i32 0), .v (.int .i32 0)] : List AV) (0 * 6) (E.map J) = E.map J := by simpa using e5
  simp only [splice, List.set_cons_zero, List.take_zero, List.nil_append, Nat.zero_add, Nat.zero_mul] at e5 e13
  rw [e2] at e3 ⊢
  generalize exC L i = cs at *
  generalize gt L i = m at *
  simp -implicitDefEqProofs (maxSteps := 1000000) (disch := omega) only [push_cast, ↓dstAt_zero, ↓dstAt_succ, ↓arun_skip, ↓arun_region, ↓arun_seq, ↓arun_cond, ↓arun_block, ↓arun_loop, ↓arun_exit, ↓arun_ret, aops_nil, aops_cons, aops_cons_guard, ↓putA_some, ↓putA_none, ↓aop_move, ↓aop_assign, ↓aop_pick, ↓aop_alloc, ↓aop_box, ↓aop_build, ↓aop_buildSlice, ↓aop_load, ↓aop_store, ↓aop_nilCheck, ↓aop_binOp, ↓aop_unOp, ↓aop_convert, ↓aop_makeSlice, ↓aop_fieldAddr, ↓aop_field, ↓aop_indexAddr, ↓aop_index, ↓aop_lookup, ↓aop_mapUpdate, ↓aop_insert, ↓aop_extract, ↓aop_callB, ↓aop_callF, ↓aop_callT, ↓aop_makeFunc, ↓aop_makeMap, ↓aop_slice, ↓aevs_nil, ↓aevs_cons, ↓evP_nil, ↓evP_cons, ↓aevO_none, ↓aevO_some, ↓reduceIte, reduceCtorEq, Nat.reduceEqDiff, Nat.reduceAdd, Nat.reduceLT, Nat.reduceSub, Nat.reduceMul, Nat.reduceLeDiff, if_true, if_false, if_pos, if_neg, s29a, Iss, hx, h42, h43, e1, e3, e4, e5, e6, e7, e8, e9, e10, e11, e12, e13, e14]
  try rfl
theorem r29b {v i sz : Nat} {cs : List AV} (hi : i < L.length) (hv : monV (gt L i) = false) : roundA Try.cfg 29 iter (call Try.cfg) 0 a (s29a G L v i sz cs) = some (.ret, [(4, .ms 2 0 0 0 0), (5, I 1)], [.cells true 0 [], .cells true v cs, .cells true 0 []]) := by
  have hx := gt_some hi
  have hl := hs _ (List.mem_of_getElem? hx)
  have h42 := call42 hl
  rw [hv] at h42
  cases h
  generalize gt L i = m at *
  simp -implicitDefEqProofs (maxSteps := 1000000) (disch := omega) only [push_cast, ↓dstAt_zero, ↓dstAt_succ, ↓arun_skip, ↓arun_region, ↓arun_seq, ↓arun_cond, ↓arun_block, ↓arun_loop, ↓arun_exit, ↓arun_ret, aops_nil, aops_cons, aops_cons_guard, ↓putA_some, ↓putA_none, ↓aop_move, ↓aop_assign, ↓aop_pick, ↓aop_alloc, ↓aop_box, ↓aop_build, ↓aop_buildSlice, ↓aop_load, ↓aop_store, ↓aop_nilCheck, ↓aop_binOp, ↓aop_unOp, ↓aop_convert, ↓aop_makeSlice, ↓aop_fieldAddr, ↓aop_field, ↓aop_indexAddr, ↓aop_index, ↓aop_lookup, ↓aop_mapUpdate, ↓aop_insert, ↓aop_extract, ↓aop_callB, ↓aop_callF, ↓aop_callT, ↓aop_makeFunc, ↓aop_makeMap, ↓aop_slice, ↓aevs_nil, ↓aevs_cons, ↓evP_nil, ↓evP_cons, ↓aevO_none, ↓aevO_some, ↓reduceIte, reduceCtorEq, Nat.reduceEqDiff, Nat.reduceAdd, Nat.reduceLT, Nat.reduceSub, Nat.reduceMul, Nat.reduceLeDiff, if_true, if_false, if_pos, if_neg, s29a, Iss, hx, h42]
theorem r29e {v sz : Nat} {cs : List AV} : roundA Try.cfg 29 iter (call Try.cfg) 0 a (s29a G L v L.length sz cs) = some (.exit 0, [(0, Iss G), (1, Iss L), (6, .ms 1 v 0 L.length sz)], [.cells true 0 [], .cells true v cs]) := by
  cases h
  simp -implicitDefEqProofs (maxSteps := 1000000) (disch := omega) only [push_cast, ↓dstAt_zero, ↓dstAt_succ, ↓arun_skip, ↓arun_region, ↓arun_seq, ↓arun_cond, ↓arun_block, ↓arun_loop, ↓arun_exit, ↓arun_ret, aops_nil, aops_cons, aops_cons_guard, ↓putA_some, ↓putA_none, ↓aop_move, ↓aop_assign, ↓aop_pick, ↓aop_alloc, ↓aop_box, ↓aop_build, ↓aop_buildSlice, ↓aop_load, ↓aop_store, ↓aop_nilCheck, ↓aop_binOp, ↓aop_unOp, ↓aop_convert, ↓aop_makeSlice, ↓aop_fieldAddr, ↓aop_field, ↓aop_indexAddr, ↓aop_index, ↓aop_lookup, ↓aop_mapUpdate, ↓aop_insert, ↓aop_extract, ↓aop_callB, ↓aop_callF, ↓aop_callT, ↓aop_makeFunc, ↓aop_makeMap, ↓aop_slice, ↓aevs_nil, ↓aevs_cons, ↓evP_nil, ↓evP_cons, ↓aevO_none, ↓aevO_some, ↓reduceIte, reduceCtorEq, Nat.reduceEqDiff, Nat.reduceAdd, Nat.reduceLT, Nat.reduceSub, Nat.reduceMul, Nat.reduceLeDiff, if_true, if_false, if_pos, if_neg, s29a, Iss, Int.lt_irrefl]
/-- The first loop. -/
theorem l29a : ∀ (k i v sz : Nat), i + k = L.length → (sz = 6 ∨ sz = 0 ∧ i = 0) → ∃ v' sz' cs', iter (roundA Try.cfg 29 iter (call Try.cfg) 0 a) (s29a G L v i sz (exC L i)) = some (if (List.range' i k).all fun j => monV (gt L j) then (.exit 0, [(0, Iss G), (1, Iss L), (6, .ms 1 v' 0 L.length sz')], [.cells true 0 [], .cells true v' cs']) else (.ret, [(4, .ms 2 0 0 0 0), (5, I 1)], [.cells true 0 [], .cells true v' cs', .cells true 0 []])) ∧ ((List.range' i k).all (fun j => monV (gt L j)) = true → cs' = exC L L.length ∧ (sz' = 6 ∨ sz' = 0 ∧ L.length = 0))
  | 0, i, v, sz, hi, hsz => by
    have e : i = L.length := by omega
    subst e
    exact ⟨v, sz, _, iter_last (r29e h hL hs) (by simp), fun _ => ⟨rfl, hsz⟩⟩
  | k + 1, i, v, sz, hi, hsz => by
    rw [List.range'_succ, List.all_cons]
    cases hv : monV (gt L i) with
    | true =>
      obtain ⟨v', sz', cs', g1, g2⟩ := l29a k (i + 1) (v + 1) 6 (by omega) (Or.inl rfl)
      refine ⟨v', sz', cs', iter_normal (r29a h hL hs (by omega) hv hsz) ?_, ?_⟩
      · rw [Bool.true_and]; exact g1
      · rw [Bool.true_and]; exact g2
    | false =>
      exact ⟨v, sz, exC L i, by simpa using iter_last (r29b h hL hs (by omega) hv) (by simp), by simp⟩
end
section
variable {a : Code} (h : loopOf 2 Try.f29 = some a) {G L : List (List Int)} (hL : L.length ≤ 1000) (hs : ∀ x ∈ L, x.length ≤ 1000) (hG : 0 < G.length) (hG' : G.length ≤ 1000) {X : AV} {b1 : AB}
include h hL hs hG hG'
def s29b (G L : List (List Int)) (X : AV) (b1 : AB) (i : Nat) : St := ([(0, Iss G), (1, Iss L), (6, X), (43, Iss L), (44, I L.length), (45, I i)], [.cells true 0 [], b1])
theorem r29s {i : Nat} (hi : i < L.length) (hq : decide ((gt L i).length = (gt G 0).length) = true) : roundA Try.cfg 29 iter (call Try.cfg) 2 a (s29b G L X b1 i) = some (.normal, s29b G L X b1 (i + 1)) := by
  have hx := gt_some hi
  have h0 := gt_some hG
  have hq := of_decide_eq_true hq
  cases h
  generalize gt L i = m at *
  generalize gt G 0 = g at *
  simp -implicitDefEqProofs (maxSteps := 1000000) (disch := omega) only [push_cast, ↓dstAt_zero, ↓dstAt_succ, ↓arun_skip, ↓arun_region, ↓arun_seq, ↓arun_cond, ↓arun_block, ↓arun_loop, ↓arun_exit, ↓arun_ret, aops_nil, aops_cons, aops_cons_guard, ↓putA_some, ↓putA_none, ↓aop_move, ↓aop_assign, ↓aop_pick, ↓aop_alloc, ↓aop_box, ↓aop_build, ↓aop_buildSlice, ↓aop_load, ↓aop_store, ↓aop_nilCheck, ↓aop_binOp, ↓aop_unOp, ↓aop_convert, ↓aop_makeSlice, ↓aop_fieldAddr, ↓aop_field, ↓aop_indexAddr, ↓aop_index, ↓aop_lookup, ↓aop_mapUpdate, ↓aop_insert, ↓aop_extract, ↓aop_callB, ↓aop_callF, ↓aop_callT, ↓aop_makeFunc, ↓aop_makeMap, ↓aop_slice, ↓aevs_nil, ↓aevs_cons, ↓evP_nil, ↓evP_cons, ↓aevO_none, ↓aevO_some, ↓reduceIte, reduceCtorEq, Nat.reduceEqDiff, Nat.reduceAdd, Nat.reduceLT, Nat.reduceSub, Nat.reduceMul, Nat.reduceLeDiff, if_true, if_false, if_pos, if_neg, s29b, Iss, hx, h0]
  try rfl
theorem r29t {i : Nat} (hi : i < L.length) (hq : decide ((gt L i).length = (gt G 0).length) = false) : roundA Try.cfg 29 iter (call Try.cfg) 2 a (s29b G L X b1 i) = some (.ret, [(4, .ms 2 0 0 0 0), (5, I 4)], [.cells true 0 [], b1, .cells true 0 []]) := by
  have hx := gt_some hi
  have h0 := gt_some hG
  have hq := of_decide_eq_false hq
  cases h
  generalize gt L i = m at *
  generalize gt G 0 = g at *
  simp -implicitDefEqProofs (maxSteps := 1000000) (disch := omega) only [push_cast, ↓dstAt_zero, ↓dstAt_succ, ↓arun_skip, ↓arun_region, ↓arun_seq, ↓arun_cond, ↓arun_block, ↓arun_loop, ↓arun_exit, ↓arun_ret, aops_nil, aops_cons, aops_cons_guard, ↓putA_some, ↓putA_none, ↓aop_move, ↓aop_assign, ↓aop_pick, ↓aop_alloc, ↓aop_box, ↓aop_build, ↓aop_buildSlice, ↓aop_load, ↓aop_store, ↓aop_nilCheck, ↓aop_binOp, ↓aop_unOp, ↓aop_convert, ↓aop_makeSlice, ↓aop_fieldAddr, ↓aop_field, ↓aop_indexAddr, ↓aop_index, ↓aop_lookup, ↓aop_mapUpdate, ↓aop_insert, ↓aop_extract, ↓aop_callB, ↓aop_callF, ↓aop_callT, ↓aop_makeFunc, ↓aop_makeMap, ↓aop_slice, ↓aevs_nil, ↓aevs_cons, ↓evP_nil, ↓evP_cons, ↓aevO_none, ↓aevO_some, ↓reduceIte, reduceCtorEq, Nat.reduceEqDiff, Nat.reduceAdd, Nat.reduceLT, Nat.reduceSub, Nat.reduceMul, Nat.reduceLeDiff, if_true, if_false, if_pos, if_neg, s29b, Iss, hx, h0]
  try rfl
theorem r29u : roundA Try.cfg 29 iter (call Try.cfg) 2 a (s29b G L X b1 L.length) = some (.exit 2, [(0, Iss G), (1, Iss L), (6, X)], [.cells true 0 [], b1]) := by
  cases h
  simp -implicitDefEqProofs (maxSteps := 1000000) (disch := omega) only [push_cast, ↓dstAt_zero, ↓dstAt_succ, ↓arun_skip, ↓arun_region, ↓arun_seq, ↓arun_cond, ↓arun_block, ↓arun_loop, ↓arun_exit, ↓arun_ret, aops_nil, aops_cons, aops_cons_guard, ↓putA_some, ↓putA_none, ↓aop_move, ↓aop_assign, ↓aop_pick, ↓aop_alloc, ↓aop_box, ↓aop_build, ↓aop_buildSlice, ↓aop_load, ↓aop_store, ↓aop_nilCheck, ↓aop_binOp, ↓aop_unOp, ↓aop_convert, ↓aop_makeSlice, ↓aop_fieldAddr, ↓aop_field, ↓aop_indexAddr, ↓aop_index, ↓aop_lookup, ↓aop_mapUpdate, ↓aop_insert, ↓aop_extract, ↓aop_callB, ↓aop_callF, ↓aop_callT, ↓aop_makeFunc, ↓aop_makeMap, ↓aop_slice, ↓aevs_nil, ↓aevs_cons, ↓evP_nil, ↓evP_cons, ↓aevO_none, ↓aevO_some, ↓reduceIte, reduceCtorEq, Nat.reduceEqDiff, Nat.reduceAdd, Nat.reduceLT, Nat.reduceSub, Nat.reduceMul, Nat.reduceLeDiff, if_true, if_false, if_pos, if_neg, s29b, Iss, Int.lt_irrefl]
theorem l29b : iter (roundA Try.cfg 29 iter (call Try.cfg) 2 a) (s29b G L X b1 0) = some (if (List.range' 0 L.length).all (fun i => decide ((gt L i).length = (gt G 0).length)) then (.exit 2, [(0, Iss G), (1, Iss L), (6, X)], [.cells true 0 [], b1]) else (.ret, [(4, .ms 2 0 0 0 0), (5, I 4)], [.cells true 0 [], b1, .cells true 0 []])) :=
  iter_all (S := fun i => s29b G L X b1 i) (fun i hi hq => r29s h hL hs hG hG' hi hq) (fun i hi hq => r29t h hL hs hG hG' hi hq) (r29u h hL hs hG hG') (by simp) (by simp) L.length 0 (by omega)
end
/-- What a new orbit leaves in the map. -/
def upG (G : List (List Int)) (m : List Int) (c : Nat) (ps : List (List Int × Nat)) : Nat → List (List Int × Nat)
  | 0 => ps
  | k + 1 => upE (upG G m c ps k) (mvP (gt G k) m) c
theorem upG_len {G : List (List Int)} {n : Nat} {m : List Int} (hm : m.length = n) (c : Nat) {ps : List (List Int × Nat)} (hp : ∀ p ∈ ps, p.1.length = n) : ∀ k, ∀ p ∈ upG G m c ps k, p.1.length = n
  | 0 => hp
  | k + 1 => upE_len (by rw [mvP_length]; exact hm) c (upG_len hm c hp k)
theorem lkE_upG (G : List (List Int)) (m y : List Int) (c : Nat) (ps : List (List Int × Nat)) : ∀ k, lkE (upG G m c ps k) y = if (List.range k).any (fun j => decide (mvP (gt G j) m = y)) then some c else lkE ps y
  | 0 => rfl
  | k + 1 => by
    rw [upG, lkE_upE, lkE_upG G m y c ps k, List.range_succ, List.any_append]
    by_cases h : y = mvP (gt G k) m
    · simp [h]
    · have : ¬ mvP (gt G k) m = y := fun e => h e.symm
      simp [h, this]
section
variable {a : Code} (h : loopOf 6 Try.f29 = some a) {G : List (List Int)} {n : Nat} (hG : GrpN G n) (hG' : G.length ≤ 1000) {m : List Int} (hm : m.length = n) {ps : List (List Int × Nat)} (hps : ∀ p ∈ ps, p.1.length = n) {o X : AV} {i N c bx : Nat} {H : Heap} (hb : H[bx]? = some (.cells true 0 ((ex6 m).map J))) (hb3 : bx ≠ 3) (h3 : 3 < H.length)
include h hG hG' hm hps hb hb3 h3
def s29i (G : List (List Int)) (o X : AV) (i N c bx : Nat) (H : Heap) (k : Nat) : St := ([(0, Iss G), (13, o), (14, .mm 3), (15, I i), (16, .mp bx 0 0), (17, I c), (61, X), (62, I N), (63, I i), (81, Iss G), (82, I G.length), (83, I k)], H)
theorem r29i {k : Nat} (hk : k < G.length) : roundA Try.cfg 29 iter (call Try.cfg) 6 a (s29i G o X i N c bx (H.set 3 (.map ((upG G m c ps k).map mkE))) k) = some (.normal, s29i G o X i N c bx (H.set 3 (.map ((upG G m c ps (k + 1)).map mkE))) (k + 1)) := by
  have hx := gt_some hk
  have hp := hG.perm _ (List.mem_of_getElem? hx)
  have h6 := hG.n6
  have hr : ∀ i, i < (gt G k).length → 0 ≤ (gt G k).getD i 0 ∧ (gt G k).getD i 0 < 6 := fun i hi => by
    have := valid_range hp.1 hi
    have := hp.2
    omega
  have h44 := call44 (A := gt G k) (E := ex6 m) (by rw [hp.2]; exact h6) (ex6_length m) hr
  have e1 : mvF 6 (gt G k) (ex6 m) (gt G k).length = ex6 (mvP (gt G k) m) := by
    rw [hp.2, ← hm]
    exact mvF_ex6 (by omega) (fun i hi => by
      have := valid_range hp.1 (i := i) (by rw [hp.2]; omega)
      have := hp.2
      omega) m.length (Nat.le_refl _)
  rw [e1] at h44
  have e2 := updA_E (x := mvP (gt G k) m) h6 (by rw [mvP_length]; exact hm) c (upG_len (G := G) hm c hps k)
  have e3 := keyOk_E (x := mvP (gt G k) m) (by rw [mvP_length]; omega)
  have e4 := goodL_J (ex6 m)
  have e5 : ((ex6 m).map J).take 6 = (ex6 m).map J := List.take_of_length_le (by simp [ex6_length])
  have e6 := ex6_length m
  have e7 : (H.set 3 (.map ((upG G m c ps k).map mkE)))[bx]? = some (.cells true 0 ((ex6 m).map J)) := by rw [List.getElem?_set_ne (Ne.symm hb3)]; exact hb
  have e8 : (H.set 3 (.map ((upG G m c ps k).map mkE)))[3]? = some (.map ((upG G m c ps k).map mkE)) := List.getElem?_set_self h3
  have e9 : ∀ x, (H.set 3 (.map ((upG G m c ps k).map mkE))).set 3 x = H.set 3 x := fun x => by rw [List.set_set]
  have e10 : upG G m c ps (k + 1) = upE (upG G m c ps k) (mvP (gt G k) m) c := rfl
  rw [e10]
  cases h
  generalize H.set 3 (.map ((upG G m c ps k).map mkE)) = H1 at *
  generalize upE (upG G m c ps k) (mvP (gt G k) m) c = ps' at *
  generalize ex6 (mvP (gt G k) m) = E' at *
  generalize ex6 m = E at *
  generalize gt G k = g at *
  simp -implicitDefEqProofs (maxSteps := 1000000) (disch := omega) only [push_cast, ↓dstAt_zero, ↓dstAt_succ, ↓arun_skip, ↓arun_region, ↓arun_seq, ↓arun_cond, ↓arun_block, ↓arun_loop, ↓arun_exit, ↓arun_ret, aops_nil, aops_cons, aops_cons_guard, ↓putA_some, ↓putA_none, ↓aop_move, ↓aop_assign, ↓aop_pick, ↓aop_alloc, ↓aop_box, ↓aop_build, ↓aop_buildSlice, ↓aop_load, ↓aop_store, ↓aop_nilCheck, ↓aop_binOp, ↓aop_unOp, ↓aop_convert, ↓aop_makeSlice, ↓aop_fieldAddr, ↓aop_field, ↓aop_indexAddr, ↓aop_index, ↓aop_lookup, ↓aop_mapUpdate, ↓aop_insert, ↓aop_extract, ↓aop_callB, ↓aop_callF, ↓aop_callT, ↓aop_makeFunc, ↓aop_makeMap, ↓aop_slice, ↓aevs_nil, ↓aevs_cons, ↓evP_nil, ↓evP_cons, ↓aevO_none, ↓aevO_some, ↓reduceIte, reduceCtorEq, Nat.reduceEqDiff, Nat.reduceAdd, Nat.reduceLT, Nat.reduceSub, Nat.reduceMul, Nat.reduceLeDiff, if_true, if_false, if_pos, if_neg, s29i, Iss, hx, h44, mapUpdateA, e2, e3, e4, e5, e6, e7, e8, e9]
  try rfl
theorem r29j {H : Heap} : roundA Try.cfg 29 iter (call Try.cfg) 6 a (s29i G o X i N c bx H G.length) = some (.exit 6, [(0, Iss G), (13, o), (14, .mm 3), (15, I i), (17, I c), (61, X), (62, I N), (63, I i)], H) := by
  cases h
  simp -implicitDefEqProofs (maxSteps := 1000000) (disch := omega) only [push_cast, ↓dstAt_zero, ↓dstAt_succ, ↓arun_skip, ↓arun_region, ↓arun_seq, ↓arun_cond, ↓arun_block, ↓arun_loop, ↓arun_exit, ↓arun_ret, aops_nil, aops_cons, aops_cons_guard, ↓putA_some, ↓putA_none, ↓aop_move, ↓aop_assign, ↓aop_pick, ↓aop_alloc, ↓aop_box, ↓aop_build, ↓aop_buildSlice, ↓aop_load, ↓aop_store, ↓aop_nilCheck, ↓aop_binOp, ↓aop_unOp, ↓aop_convert, ↓aop_makeSlice, ↓aop_fieldAddr, ↓aop_field, ↓aop_indexAddr, ↓aop_index, ↓aop_lookup, ↓aop_mapUpdate, ↓aop_insert, ↓aop_extract, ↓aop_callB, ↓aop_callF, ↓aop_callT, ↓aop_makeFunc, ↓aop_makeMap, ↓aop_slice, ↓aevs_nil, ↓aevs_cons, ↓evP_nil, ↓evP_cons, ↓aevO_none, ↓aevO_some, ↓reduceIte, reduceCtorEq, Nat.reduceEqDiff, Nat.reduceAdd, Nat.reduceLT, Nat.reduceSub, Nat.reduceMul, Nat.reduceLeDiff, if_true, if_false, if_pos, if_neg, s29i, Iss, Int.lt_irrefl]
theorem l29i (hm3 : H[3]? = some (.map (ps.map mkE))) : iter (roundA Try.cfg 29 iter (call Try.cfg) 6 a) (s29i G o X i N c bx H 0) = some (.exit 6, [(0, Iss G), (13, o), (14, .mm 3), (15, I i), (17, I c), (61, X), (62, I N), (63, I i)], H.set 3 (.map ((upG G m c ps G.length).map mkE))) := by
  have hH := iter_run (S := fun k => s29i G o X i N c bx (H.set 3 (.map ((upG G m c ps k).map mkE))) k) (fun k hk => r29i h hG hG' hm hps hb hb3 h3 hk) (r29j h hG hG' hm hps hb hb3 h3) (by simp) G.length 0 (by omega)
  have e : H.set 3 (.map ((upG G m c ps 0).map mkE)) = H := by
    have : upG G m c ps 0 = ps := rfl
    rw [this]
    apply List.ext_getElem?
    intro j
    by_cases ej : j = 3
    · subst ej; rw [List.getElem?_set_self h3, hm3]
    · rw [List.getElem?_set_ne (Ne.symm ej)]
  rw [e] at hH
  exact hH
end
end Go.Proofs
