/- Texts of one proof, joined: F24, F33, F17, F18, F20, PPerm, F19, F11, F11b, F40, F12, F15, F16, PPerm2, PReach, F36, F36b, F36c, Sort1, SortLen, Sort2, Sort3, Sort4. Conditions: none of its own; each part names what it shows. -/
import Derived.KernelRfl
import Derived.Test.YtdodfimekcoclaaG1
/- ref.Valid. -/
set_option linter.unusedVariables false
set_option linter.unusedSimpArgs false
set_option linter.unusedSectionVars false
namespace Go.Proofs
open Go.AI
set_option maxRecDepth 20000
theorem seenL_ext (n : Nat) : ∀ (l : List Int) (bs bs' : List Bool), n ≤ bs.length → n ≤ bs'.length → (∀ j, j < n → bs.getD j false = bs'.getD j false) → seenL n l bs = seenL n l bs'
  | [], _, _, _, _, _ => rfl
  | x :: r, bs, bs', h1, h2, h => by
    simp only [seenL]
    by_cases hx : x < 0
    · simp [hx]
    by_cases hn : (n : Int) ≤ x
    · simp [hx, hn]
    have hj : x.toNat < n := by omega
    rw [h _ hj]
    simp only [hx, hn, if_false]
    rw [seenL_ext n r (bs.set x.toNat true) (bs'.set x.toNat true) (by simpa using h1) (by simpa using h2)]
    intro j hjn
    by_cases he : x.toNat = j
    · subst he
      simp [List.getD_eq_getElem?_getD, List.getElem?_set_self (show x.toNat < bs.length by omega), List.getElem?_set_self (show x.toNat < bs'.length by omega)]
    · have := h j hjn
      simp only [List.getD_eq_getElem?_getD] at this ⊢
      rw [List.getElem?_set_ne he, List.getElem?_set_ne he, this]
theorem validL_eq {A : List Int} (h : A.length ≤ 6) : seenL A.length A (List.replicate A.length false) = seenL A.length A [false, false, false, false, false, false] := by
  refine seenL_ext A.length A _ _ (by simp) (by simpa using h) fun j hj => ?_
  have e : ([false, false, false, false, false, false] : List Bool) = List.replicate 6 false := rfl
  rw [e, List.getD_eq_getElem?_getD, List.getD_eq_getElem?_getD, List.getElem?_replicate, List.getElem?_replicate]
  split <;> split <;> rfl
section
variable {a : Code} (h : loopOf 0 Try.f24 = some a) {A : List Int} {bs : List Bool} (hb : bs.length = A.length) {i : Nat} (hA : A.length ≤ 6)
include h hb hA
def st24 (A : List Int) (i : Nat) (bs : List Bool) : St := ([(0, Is A), (3, .ms 0 0 0 A.length 1), (4, I i)], [.cells true 0 (Bs bs)])
theorem r24a (hi : i < A.length) {x : Int} (hx : A[i]? = some x) (h1 : x < 0) : roundA Try.cfg 24 iter (call Try.cfg) 0 a (st24 A i bs) = some (.ret, [(2, B false)], [.cells true 0 (Bs bs)]) := by
  cases h
  simp -implicitDefEqProofs (maxSteps := 1000000) (disch := omega) only [push_cast, ↓dstAt_zero, ↓dstAt_succ, ↓arun_skip, ↓arun_region, ↓arun_seq, ↓arun_cond, ↓arun_block, ↓arun_loop, ↓arun_exit, ↓arun_ret, aops_nil, aops_cons, aops_cons_guard, ↓putA_some, ↓putA_none, ↓aop_move, ↓aop_assign, ↓aop_pick, ↓aop_alloc, ↓aop_box, ↓aop_build, ↓aop_buildSlice, ↓aop_load, ↓aop_store, ↓aop_nilCheck, ↓aop_binOp, ↓aop_unOp, ↓aop_convert, ↓aop_makeSlice, ↓aop_fieldAddr, ↓aop_field, ↓aop_indexAddr, ↓aop_index, ↓aop_lookup, ↓aop_mapUpdate, ↓aop_insert, ↓aop_extract, ↓aop_callB, ↓aop_callF, ↓aop_callT, ↓aop_makeFunc, ↓aop_makeMap, ↓aop_slice, ↓aevs_nil, ↓aevs_cons, ↓evP_nil, ↓evP_cons, ↓aevO_none, ↓aevO_some, ↓reduceIte, reduceCtorEq, Nat.reduceEqDiff, Nat.reduceAdd, Nat.reduceLT, Nat.reduceSub, Nat.reduceMul, Nat.reduceLeDiff, if_true, if_false, if_pos, if_neg, st24, hx]
theorem r24b (hi : i < A.length) {x : Int} (hx : A[i]? = some x) (h1 : 0 ≤ x) (h2 : A.length ≤ x) : roundA Try.cfg 24 iter (call Try.cfg) 0 a (st24 A i bs) = some (.ret, [(2, B false)], [.cells true 0 (Bs bs)]) := by
  cases h
  simp -implicitDefEqProofs (maxSteps := 1000000) (disch := omega) only [push_cast, ↓dstAt_zero, ↓dstAt_succ, ↓arun_skip, ↓arun_region, ↓arun_seq, ↓arun_cond, ↓arun_block, ↓arun_loop, ↓arun_exit, ↓arun_ret, aops_nil, aops_cons, aops_cons_guard, ↓putA_some, ↓putA_none, ↓aop_move, ↓aop_assign, ↓aop_pick, ↓aop_alloc, ↓aop_box, ↓aop_build, ↓aop_buildSlice, ↓aop_load, ↓aop_store, ↓aop_nilCheck, ↓aop_binOp, ↓aop_unOp, ↓aop_convert, ↓aop_makeSlice, ↓aop_fieldAddr, ↓aop_field, ↓aop_indexAddr, ↓aop_index, ↓aop_lookup, ↓aop_mapUpdate, ↓aop_insert, ↓aop_extract, ↓aop_callB, ↓aop_callF, ↓aop_callT, ↓aop_makeFunc, ↓aop_makeMap, ↓aop_slice, ↓aevs_nil, ↓aevs_cons, ↓evP_nil, ↓evP_cons, ↓aevO_none, ↓aevO_some, ↓reduceIte, reduceCtorEq, Nat.reduceEqDiff, Nat.reduceAdd, Nat.reduceLT, Nat.reduceSub, Nat.reduceMul, Nat.reduceLeDiff, if_true, if_false, if_pos, if_neg, st24, hx]
theorem r24c (hi : i < A.length) {x : Int} (hx : A[i]? = some x) (h1 : 0 ≤ x) (h2 : x < A.length) (h3 : bs[x.toNat]? = some true) : roundA Try.cfg 24 iter (call Try.cfg) 0 a (st24 A i bs) = some (.ret, [(2, B false)], [.cells true 0 (Bs bs)]) := by
  cases h
  simp -implicitDefEqProofs (maxSteps := 1000000) (disch := omega) only [push_cast, ↓dstAt_zero, ↓dstAt_succ, ↓arun_skip, ↓arun_region, ↓arun_seq, ↓arun_cond, ↓arun_block, ↓arun_loop, ↓arun_exit, ↓arun_ret, aops_nil, aops_cons, aops_cons_guard, ↓putA_some, ↓putA_none, ↓aop_move, ↓aop_assign, ↓aop_pick, ↓aop_alloc, ↓aop_box, ↓aop_build, ↓aop_buildSlice, ↓aop_load, ↓aop_store, ↓aop_nilCheck, ↓aop_binOp, ↓aop_unOp, ↓aop_convert, ↓aop_makeSlice, ↓aop_fieldAddr, ↓aop_field, ↓aop_indexAddr, ↓aop_index, ↓aop_lookup, ↓aop_mapUpdate, ↓aop_insert, ↓aop_extract, ↓aop_callB, ↓aop_callF, ↓aop_callT, ↓aop_makeFunc, ↓aop_makeMap, ↓aop_slice, ↓aevs_nil, ↓aevs_cons, ↓evP_nil, ↓evP_cons, ↓aevO_none, ↓aevO_some, ↓reduceIte, reduceCtorEq, Nat.reduceEqDiff, Nat.reduceAdd, Nat.reduceLT, Nat.reduceSub, Nat.reduceMul, Nat.reduceLeDiff, if_true, if_false, if_pos, if_neg, st24, hx, h3]
theorem r24d (hi : i < A.length) {x : Int} (hx : A[i]? = some x) (h1 : 0 ≤ x) (h2 : x < A.length) (h3 : bs[x.toNat]? = some false) : roundA Try.cfg 24 iter (call Try.cfg) 0 a (st24 A i bs) = some (.normal, st24 A (i + 1) (bs.set x.toNat true)) := by
  cases h
  simp -implicitDefEqProofs (maxSteps := 1000000) (disch := omega) only [push_cast, ↓dstAt_zero, ↓dstAt_succ, ↓arun_skip, ↓arun_region, ↓arun_seq, ↓arun_cond, ↓arun_block, ↓arun_loop, ↓arun_exit, ↓arun_ret, aops_nil, aops_cons, aops_cons_guard, ↓putA_some, ↓putA_none, ↓aop_move, ↓aop_assign, ↓aop_pick, ↓aop_alloc, ↓aop_box, ↓aop_build, ↓aop_buildSlice, ↓aop_load, ↓aop_store, ↓aop_nilCheck, ↓aop_binOp, ↓aop_unOp, ↓aop_convert, ↓aop_makeSlice, ↓aop_fieldAddr, ↓aop_field, ↓aop_indexAddr, ↓aop_index, ↓aop_lookup, ↓aop_mapUpdate, ↓aop_insert, ↓aop_extract, ↓aop_callB, ↓aop_callF, ↓aop_callT, ↓aop_makeFunc, ↓aop_makeMap, ↓aop_slice, ↓aevs_nil, ↓aevs_cons, ↓evP_nil, ↓evP_cons, ↓aevO_none, ↓aevO_some, ↓reduceIte, reduceCtorEq, Nat.reduceEqDiff, Nat.reduceAdd, Nat.reduceLT, Nat.reduceSub, Nat.reduceMul, Nat.reduceLeDiff, if_true, if_false, if_pos, if_neg, st24, hx, h3]
  try rfl
theorem r24e (hi : i = A.length) : roundA Try.cfg 24 iter (call Try.cfg) 0 a (st24 A i bs) = some (.exit 0, [], [.cells true 0 (Bs bs)]) := by
  cases h
  simp -implicitDefEqProofs (maxSteps := 1000000) (disch := omega) only [push_cast, ↓dstAt_zero, ↓dstAt_succ, ↓arun_skip, ↓arun_region, ↓arun_seq, ↓arun_cond, ↓arun_block, ↓arun_loop, ↓arun_exit, ↓arun_ret, aops_nil, aops_cons, aops_cons_guard, ↓putA_some, ↓putA_none, ↓aop_move, ↓aop_assign, ↓aop_pick, ↓aop_alloc, ↓aop_box, ↓aop_build, ↓aop_buildSlice, ↓aop_load, ↓aop_store, ↓aop_nilCheck, ↓aop_binOp, ↓aop_unOp, ↓aop_convert, ↓aop_makeSlice, ↓aop_fieldAddr, ↓aop_field, ↓aop_indexAddr, ↓aop_index, ↓aop_lookup, ↓aop_mapUpdate, ↓aop_insert, ↓aop_extract, ↓aop_callB, ↓aop_callF, ↓aop_callT, ↓aop_makeFunc, ↓aop_makeMap, ↓aop_slice, ↓aevs_nil, ↓aevs_cons, ↓evP_nil, ↓evP_cons, ↓aevO_none, ↓aevO_some, ↓reduceIte, reduceCtorEq, Nat.reduceEqDiff, Nat.reduceAdd, Nat.reduceLT, Nat.reduceSub, Nat.reduceMul, Nat.reduceLeDiff, if_true, if_false, if_pos, if_neg, st24]
omit hb in
theorem l24 : ∀ (r pre : List Int) (bs : List Bool), bs.length = A.length → A = pre ++ r → ∃ H, iter (roundA Try.cfg 24 iter (call Try.cfg) 0 a) (st24 A pre.length bs) = some (if seenL A.length r bs then (.exit 0, [], H) else (.ret, [(2, B false)], H))
  | [], pre, bs, hb, hp => by
    refine ⟨_, iter_last (r24e h hb hA (by simp [hp])) (by simp [seenL])⟩
  | x :: r, pre, bs, hb, hp => by
    have hi : pre.length < A.length := by simp [hp]
    have hx : A[pre.length]? = some x := by simp [hp]
    by_cases h1 : x < 0
    · refine ⟨[.cells true 0 (Bs bs)], ?_⟩
      simp only [seenL, h1, if_true, Bool.false_eq_true, if_false]
      exact iter_last (r24a h hb hA hi hx h1) (by simp)
    by_cases h2 : (A.length : Int) ≤ x
    · refine ⟨[.cells true 0 (Bs bs)], ?_⟩
      simp only [seenL, h1, h2, if_true, Bool.false_eq_true, if_false]
      exact iter_last (r24b h hb hA hi hx (by omega) h2) (by simp)
    have h4 : x.toNat < bs.length := by omega
    have hg : bs[x.toNat]? = some (bs.getD x.toNat false) := by simp [h4]
    cases h3 : bs.getD x.toNat false with
    | true =>
      rw [h3] at hg
      refine ⟨[.cells true 0 (Bs bs)], ?_⟩
      simp only [seenL, h1, h2, h3, if_true, Bool.false_eq_true, if_false]
      exact iter_last (r24c h hb hA hi hx (by omega) (by omega) hg) (by simp)
    | false =>
      rw [h3] at hg
      obtain ⟨H, hH⟩ := l24 r (pre ++ [x]) (bs.set x.toNat true) (by simpa using hb) (by simp [hp])
      refine ⟨H, ?_⟩
      simp only [seenL, h1, h2, h3, Bool.false_eq_true, if_false]
      refine iter_normal (r24d h hb hA hi hx (by omega) (by omega) hg) ?_
      simpa using hH
end
theorem call24 (A : List Int) (hA : A.length ≤ 1000) : call Try.cfg 24 [Is A] [] = some (B (validL A), []) := by
  refine call_step ?_
  by_cases h6 : A.length ≤ 6
  · cases hl : loopOf 0 Try.f24 with
    | none => cases hl
    | some a =>
      obtain ⟨H, hH⟩ := l24 (A := A) hl h6 A [] (List.replicate A.length false) (by simp) rfl
      cases hl
      rw [validL_eq h6] at hH
      simp only [st24, Is, Bs, List.length_nil, Int.natCast_zero] at hH
      have hd : decide (A.length ≤ 6) = true := by simpa using h6
      cases hv : seenL A.length A [false, false, false, false, false, false] with
      | true =>
        rw [hv, if_pos rfl] at hH
        simp -implicitDefEqProofs (maxSteps := 1000000) (disch := omega) only [stepA, bodyA, Try.cfgO, Try.sh24, Try.func24, Try.f24, push_cast, ↓dstAt_zero, ↓dstAt_succ, ↓arun_skip, ↓arun_region, ↓arun_seq, ↓arun_cond, ↓arun_block, ↓arun_loop, ↓arun_exit, ↓arun_ret, aops_nil, aops_cons, aops_cons_guard, ↓putA_some, ↓putA_none, ↓aop_move, ↓aop_assign, ↓aop_pick, ↓aop_alloc, ↓aop_box, ↓aop_build, ↓aop_buildSlice, ↓aop_load, ↓aop_store, ↓aop_nilCheck, ↓aop_binOp, ↓aop_unOp, ↓aop_convert, ↓aop_makeSlice, ↓aop_fieldAddr, ↓aop_field, ↓aop_indexAddr, ↓aop_index, ↓aop_lookup, ↓aop_mapUpdate, ↓aop_insert, ↓aop_extract, ↓aop_callB, ↓aop_callF, ↓aop_callT, ↓aop_makeFunc, ↓aop_makeMap, ↓aop_slice, ↓aevs_nil, ↓aevs_cons, ↓evP_nil, ↓evP_cons, ↓aevO_none, ↓aevO_some, ↓reduceIte, reduceCtorEq, Nat.reduceEqDiff, Nat.reduceAdd, Nat.reduceLT, Nat.reduceSub, Nat.reduceMul, Nat.reduceLeDiff, if_true, if_false, if_pos, if_neg, hH, validL, hv, hd]
      | false =>
        rw [hv, if_neg (by simp)] at hH
        simp -implicitDefEqProofs (maxSteps := 1000000) (disch := omega) only [stepA, bodyA, Try.cfgO, Try.sh24, Try.func24, Try.f24, push_cast, ↓dstAt_zero, ↓dstAt_succ, ↓arun_skip, ↓arun_region, ↓arun_seq, ↓arun_cond, ↓arun_block, ↓arun_loop, ↓arun_exit, ↓arun_ret, aops_nil, aops_cons, aops_cons_guard, ↓putA_some, ↓putA_none, ↓aop_move, ↓aop_assign, ↓aop_pick, ↓aop_alloc, ↓aop_box, ↓aop_build, ↓aop_buildSlice, ↓aop_load, ↓aop_store, ↓aop_nilCheck, ↓aop_binOp, ↓aop_unOp, ↓aop_convert, ↓aop_makeSlice, ↓aop_fieldAddr, ↓aop_field, ↓aop_indexAddr, ↓aop_index, ↓aop_lookup, ↓aop_mapUpdate, ↓aop_insert, ↓aop_extract, ↓aop_callB, ↓aop_callF, ↓aop_callT, ↓aop_makeFunc, ↓aop_makeMap, ↓aop_slice, ↓aevs_nil, ↓aevs_cons, ↓evP_nil, ↓evP_cons, ↓aevO_none, ↓aevO_some, ↓reduceIte, reduceCtorEq, Nat.reduceEqDiff, Nat.reduceAdd, Nat.reduceLT, Nat.reduceSub, Nat.reduceMul, Nat.reduceLeDiff, if_true, if_false, if_pos, if_neg, hH, validL, hv, hd]
  · have hd : decide (A.length ≤ 6) = false := by simpa using h6
    simp -implicitDefEqProofs (maxSteps := 1000000) (disch := omega) only [stepA, bodyA, Try.cfgO, Try.sh24, Try.func24, Try.f24, push_cast, ↓dstAt_zero, ↓dstAt_succ, ↓arun_skip, ↓arun_region, ↓arun_seq, ↓arun_cond, ↓arun_block, ↓arun_loop, ↓arun_exit, ↓arun_ret, aops_nil, aops_cons, aops_cons_guard, ↓putA_some, ↓putA_none, ↓aop_move, ↓aop_assign, ↓aop_pick, ↓aop_alloc, ↓aop_box, ↓aop_build, ↓aop_buildSlice, ↓aop_load, ↓aop_store, ↓aop_nilCheck, ↓aop_binOp, ↓aop_unOp, ↓aop_convert, ↓aop_makeSlice, ↓aop_fieldAddr, ↓aop_field, ↓aop_indexAddr, ↓aop_index, ↓aop_lookup, ↓aop_mapUpdate, ↓aop_insert, ↓aop_extract, ↓aop_callB, ↓aop_callF, ↓aop_callT, ↓aop_makeFunc, ↓aop_makeMap, ↓aop_slice, ↓aevs_nil, ↓aevs_cons, ↓evP_nil, ↓evP_cons, ↓aevO_none, ↓aevO_some, ↓reduceIte, reduceCtorEq, Nat.reduceEqDiff, Nat.reduceAdd, Nat.reduceLT, Nat.reduceSub, Nat.reduceMul, Nat.reduceLeDiff, if_true, if_false, if_pos, if_neg, validL, hd, Bool.false_and]
end Go.Proofs

/- product, Product, Unit, identity. -/
set_option linter.unusedVariables false
set_option linter.unusedSimpArgs false
set_option linter.unusedSectionVars false
namespace Go.Proofs
open Go.AI
set_option maxRecDepth 20000
theorem get_of {l : List Int} {i : Nat} (h : i < l.length) : l[i]? = some (l.getD i 0) := by simp [h]
/-- The identity. -/
def idP (n : Nat) : List Int := (List.range n).map fun (j : Nat) => (j : Int)
/-- The product. -/
def mulP (a b : List Int) : List Int := (List.range a.length).map fun j => a.getD (b.getD j 0).toNat 0
def Perm6 (a : List Int) : Prop := a.length ≤ 6 ∧ ∀ i, i < a.length → 0 ≤ a.getD i 0 ∧ a.getD i 0 < a.length
section
variable {a : Code} (h : loopOf 0 Try.f31 = some a) {n : Nat} (hn : n ≤ 1000)
include h hn
def st31 (n i : Nat) (os : List Int) : St := ([(3, .ms 1 0 0 n 1), (8, I n), (9, I i)], [.cells true 0 [], .cells true 0 (os.map I)])
theorem r31a {i : Nat} {os : List Int} (hi : i < n) (ho : os.length = n) : roundA Try.cfg 31 iter (call Try.cfg) 0 a (st31 n i os) = some (.normal, st31 n (i + 1) (os.set i i)) := by
  cases h
  simp -implicitDefEqProofs (disch := omega) only [push_cast, ↓dstAt_zero, ↓dstAt_succ, ↓arun_skip, ↓arun_region, ↓arun_seq, ↓arun_cond, ↓arun_block, ↓arun_loop, ↓arun_exit, ↓arun_ret, aops_nil, aops_cons, aops_cons_guard, ↓putA_some, ↓putA_none, ↓aop_move, ↓aop_assign, ↓aop_pick, ↓aop_alloc, ↓aop_box, ↓aop_build, ↓aop_buildSlice, ↓aop_load, ↓aop_store, ↓aop_nilCheck, ↓aop_binOp, ↓aop_unOp, ↓aop_convert, ↓aop_makeSlice, ↓aop_fieldAddr, ↓aop_field, ↓aop_indexAddr, ↓aop_index, ↓aop_lookup, ↓aop_mapUpdate, ↓aop_insert, ↓aop_extract, ↓aop_callB, ↓aop_callF, ↓aop_callT, ↓aop_makeFunc, ↓aop_makeMap, ↓aop_slice, ↓aevs_nil, ↓aevs_cons, ↓evP_nil, ↓evP_cons, ↓aevO_none, ↓aevO_some, ↓reduceIte, reduceCtorEq, Nat.reduceEqDiff, Nat.reduceAdd, Nat.reduceLT, Nat.reduceSub, Nat.reduceMul, Nat.reduceLeDiff, if_true, if_false, if_pos, if_neg, st31]
  try rfl
theorem r31b {os : List Int} (ho : os.length = n) : roundA Try.cfg 31 iter (call Try.cfg) 0 a (st31 n n os) = some (.exit 0, [(3, .ms 1 0 0 n 1)], [.cells true 0 [], .cells true 0 (os.map I)]) := by
  cases h
  simp -implicitDefEqProofs (disch := omega) only [push_cast, ↓dstAt_zero, ↓dstAt_succ, ↓arun_skip, ↓arun_region, ↓arun_seq, ↓arun_cond, ↓arun_block, ↓arun_loop, ↓arun_exit, ↓arun_ret, aops_nil, aops_cons, aops_cons_guard, ↓putA_some, ↓putA_none, ↓aop_move, ↓aop_assign, ↓aop_pick, ↓aop_alloc, ↓aop_box, ↓aop_build, ↓aop_buildSlice, ↓aop_load, ↓aop_store, ↓aop_nilCheck, ↓aop_binOp, ↓aop_unOp, ↓aop_convert, ↓aop_makeSlice, ↓aop_fieldAddr, ↓aop_field, ↓aop_indexAddr, ↓aop_index, ↓aop_lookup, ↓aop_mapUpdate, ↓aop_insert, ↓aop_extract, ↓aop_callB, ↓aop_callF, ↓aop_callT, ↓aop_makeFunc, ↓aop_makeMap, ↓aop_slice, ↓aevs_nil, ↓aevs_cons, ↓evP_nil, ↓evP_cons, ↓aevO_none, ↓aevO_some, ↓reduceIte, reduceCtorEq, Nat.reduceEqDiff, Nat.reduceAdd, Nat.reduceLT, Nat.reduceSub, Nat.reduceMul, Nat.reduceLeDiff, if_true, if_false, if_pos, if_neg, st31]
end
theorem call31 {n : Nat} (hn : n ≤ 1000) : call Try.cfg 31 [I n] [] = some (.sl false n ((idP n).map I), []) := by
  refine call_step ?_
  cases hl : loopOf 0 Try.f31 with
  | none => cases hl
  | some a =>
    have hH := iter_run (S := fun i => st31 n i (upto (fun (j : Nat) => (j : Int)) 0 n i)) (fun i hi => by
      show _ = some (Ex.normal, st31 n (i + 1) (upto (fun (j : Nat) => (j : Int)) 0 n (i + 1)))
      rw [← upto_set (fun (j : Nat) => (j : Int)) 0 hi]
      exact r31a hl hn hi (upto_length _ _ _ _)) (r31b hl hn (upto_length _ _ _ _)) (by simp) n 0 (by omega)
    cases hl
    have hlen : (idP n).length = n := by simp [idP]
    simp only [st31, Int.natCast_zero, upto_zero, upto_all] at hH
    rw [show (List.range n).map (fun (j : Nat) => (j : Int)) = idP n from rfl] at hH
    simp -implicitDefEqProofs (disch := omega) only [stepA, bodyA, Try.cfgO, Try.sh31, Try.func31, Try.f31, push_cast, ↓dstAt_zero, ↓dstAt_succ, ↓arun_skip, ↓arun_region, ↓arun_seq, ↓arun_cond, ↓arun_block, ↓arun_loop, ↓arun_exit, ↓arun_ret, aops_nil, aops_cons, aops_cons_guard, ↓putA_some, ↓putA_none, ↓aop_move, ↓aop_assign, ↓aop_pick, ↓aop_alloc, ↓aop_box, ↓aop_build, ↓aop_buildSlice, ↓aop_load, ↓aop_store, ↓aop_nilCheck, ↓aop_binOp, ↓aop_unOp, ↓aop_convert, ↓aop_makeSlice, ↓aop_fieldAddr, ↓aop_field, ↓aop_indexAddr, ↓aop_index, ↓aop_lookup, ↓aop_mapUpdate, ↓aop_insert, ↓aop_extract, ↓aop_callB, ↓aop_callF, ↓aop_callT, ↓aop_makeFunc, ↓aop_makeMap, ↓aop_slice, ↓aevs_nil, ↓aevs_cons, ↓evP_nil, ↓evP_cons, ↓aevO_none, ↓aevO_some, ↓reduceIte, reduceCtorEq, Nat.reduceEqDiff, Nat.reduceAdd, Nat.reduceLT, Nat.reduceSub, Nat.reduceMul, Nat.reduceLeDiff, if_true, if_false, if_pos, if_neg, hH]
section
variable {a : Code} (h : loopOf 0 Try.f38 = some a) {n : Nat} (hn : n ≤ 1000)
include h hn
def st38 (n i : Nat) (os : List Int) : St := ([(0, I n), (3, .ms 1 0 0 n 1), (4, I i)], [.cells true 0 [], .cells true 0 (os.map I)])
theorem r38a {i : Nat} {os : List Int} (hi : i < n) (ho : os.length = n) : roundA Try.cfg 38 iter (call Try.cfg) 0 a (st38 n i os) = some (.normal, st38 n (i + 1) (os.set i i)) := by
  cases h
  simp -implicitDefEqProofs (disch := omega) only [push_cast, ↓dstAt_zero, ↓dstAt_succ, ↓arun_skip, ↓arun_region, ↓arun_seq, ↓arun_cond, ↓arun_block, ↓arun_loop, ↓arun_exit, ↓arun_ret, aops_nil, aops_cons, aops_cons_guard, ↓putA_some, ↓putA_none, ↓aop_move, ↓aop_assign, ↓aop_pick, ↓aop_alloc, ↓aop_box, ↓aop_build, ↓aop_buildSlice, ↓aop_load, ↓aop_store, ↓aop_nilCheck, ↓aop_binOp, ↓aop_unOp, ↓aop_convert, ↓aop_makeSlice, ↓aop_fieldAddr, ↓aop_field, ↓aop_indexAddr, ↓aop_index, ↓aop_lookup, ↓aop_mapUpdate, ↓aop_insert, ↓aop_extract, ↓aop_callB, ↓aop_callF, ↓aop_callT, ↓aop_makeFunc, ↓aop_makeMap, ↓aop_slice, ↓aevs_nil, ↓aevs_cons, ↓evP_nil, ↓evP_cons, ↓aevO_none, ↓aevO_some, ↓reduceIte, reduceCtorEq, Nat.reduceEqDiff, Nat.reduceAdd, Nat.reduceLT, Nat.reduceSub, Nat.reduceMul, Nat.reduceLeDiff, if_true, if_false, if_pos, if_neg, st38]
  try rfl
theorem r38b {os : List Int} (ho : os.length = n) : roundA Try.cfg 38 iter (call Try.cfg) 0 a (st38 n n os) = some (.exit 0, [(3, .ms 1 0 0 n 1)], [.cells true 0 [], .cells true 0 (os.map I)]) := by
  cases h
  simp -implicitDefEqProofs (disch := omega) only [push_cast, ↓dstAt_zero, ↓dstAt_succ, ↓arun_skip, ↓arun_region, ↓arun_seq, ↓arun_cond, ↓arun_block, ↓arun_loop, ↓arun_exit, ↓arun_ret, aops_nil, aops_cons, aops_cons_guard, ↓putA_some, ↓putA_none, ↓aop_move, ↓aop_assign, ↓aop_pick, ↓aop_alloc, ↓aop_box, ↓aop_build, ↓aop_buildSlice, ↓aop_load, ↓aop_store, ↓aop_nilCheck, ↓aop_binOp, ↓aop_unOp, ↓aop_convert, ↓aop_makeSlice, ↓aop_fieldAddr, ↓aop_field, ↓aop_indexAddr, ↓aop_index, ↓aop_lookup, ↓aop_mapUpdate, ↓aop_insert, ↓aop_extract, ↓aop_callB, ↓aop_callF, ↓aop_callT, ↓aop_makeFunc, ↓aop_makeMap, ↓aop_slice, ↓aevs_nil, ↓aevs_cons, ↓evP_nil, ↓evP_cons, ↓aevO_none, ↓aevO_some, ↓reduceIte, reduceCtorEq, Nat.reduceEqDiff, Nat.reduceAdd, Nat.reduceLT, Nat.reduceSub, Nat.reduceMul, Nat.reduceLeDiff, if_true, if_false, if_pos, if_neg, st38]
end
theorem call38 {n : Nat} (hn : n ≤ 1000) : call Try.cfg 38 [I n] [] = some (.sl false n ((idP n).map I), []) := by
  refine call_step ?_
  cases hl : loopOf 0 Try.f38 with
  | none => cases hl
  | some a =>
    have hH := iter_run (S := fun i => st38 n i (upto (fun (j : Nat) => (j : Int)) 0 n i)) (fun i hi => by
      show _ = some (Ex.normal, st38 n (i + 1) (upto (fun (j : Nat) => (j : Int)) 0 n (i + 1)))
      rw [← upto_set (fun (j : Nat) => (j : Int)) 0 hi]
      exact r38a hl hn hi (upto_length _ _ _ _)) (r38b hl hn (upto_length _ _ _ _)) (by simp) n 0 (by omega)
    cases hl
    have hlen : (idP n).length = n := by simp [idP]
    simp only [st38, Int.natCast_zero, upto_zero, upto_all] at hH
    rw [show (List.range n).map (fun (j : Nat) => (j : Int)) = idP n from rfl] at hH
    simp -implicitDefEqProofs (disch := omega) only [stepA, bodyA, Try.cfgO, Try.sh38, Try.func38, Try.f38, push_cast, ↓dstAt_zero, ↓dstAt_succ, ↓arun_skip, ↓arun_region, ↓arun_seq, ↓arun_cond, ↓arun_block, ↓arun_loop, ↓arun_exit, ↓arun_ret, aops_nil, aops_cons, aops_cons_guard, ↓putA_some, ↓putA_none, ↓aop_move, ↓aop_assign, ↓aop_pick, ↓aop_alloc, ↓aop_box, ↓aop_build, ↓aop_buildSlice, ↓aop_load, ↓aop_store, ↓aop_nilCheck, ↓aop_binOp, ↓aop_unOp, ↓aop_convert, ↓aop_makeSlice, ↓aop_fieldAddr, ↓aop_field, ↓aop_indexAddr, ↓aop_index, ↓aop_lookup, ↓aop_mapUpdate, ↓aop_insert, ↓aop_extract, ↓aop_callB, ↓aop_callF, ↓aop_callT, ↓aop_makeFunc, ↓aop_makeMap, ↓aop_slice, ↓aevs_nil, ↓aevs_cons, ↓evP_nil, ↓evP_cons, ↓aevO_none, ↓aevO_some, ↓reduceIte, reduceCtorEq, Nat.reduceEqDiff, Nat.reduceAdd, Nat.reduceLT, Nat.reduceSub, Nat.reduceMul, Nat.reduceLeDiff, if_true, if_false, if_pos, if_neg, hH]
section
variable {a : Code} (h : loopOf 0 Try.f33 = some a) {A C : List Int} (hA : A.length ≤ 6) (hC : C.length = A.length) (hr : ∀ i, i < A.length → 0 ≤ C.getD i 0 ∧ C.getD i 0 < A.length)
include h hA hC hr
def st33 (A C : List Int) (i : Nat) (os : List Int) : St := ([(0, Is A), (5, .ms 1 0 0 A.length 1), (11, Is C), (12, I C.length), (13, I i)], [.cells true 0 [], .cells true 0 (os.map I)])
theorem r33a {i : Nat} {os : List Int} (hi : i < A.length) (ho : os.length = A.length) : roundA Try.cfg 33 iter (call Try.cfg) 0 a (st33 A C i os) = some (.normal, st33 A C (i + 1) (os.set i (A.getD (C.getD i 0).toNat 0))) := by
  cases h
  have h1 := hr i hi
  have hx : C[i]? = some (C.getD i 0) := get_of (by omega)
  generalize C.getD i 0 = x at *
  have hy : A[x.toNat]? = some (A.getD x.toNat 0) := get_of (by omega)
  simp -implicitDefEqProofs (disch := omega) only [push_cast, ↓dstAt_zero, ↓dstAt_succ, ↓arun_skip, ↓arun_region, ↓arun_seq, ↓arun_cond, ↓arun_block, ↓arun_loop, ↓arun_exit, ↓arun_ret, aops_nil, aops_cons, aops_cons_guard, ↓putA_some, ↓putA_none, ↓aop_move, ↓aop_assign, ↓aop_pick, ↓aop_alloc, ↓aop_box, ↓aop_build, ↓aop_buildSlice, ↓aop_load, ↓aop_store, ↓aop_nilCheck, ↓aop_binOp, ↓aop_unOp, ↓aop_convert, ↓aop_makeSlice, ↓aop_fieldAddr, ↓aop_field, ↓aop_indexAddr, ↓aop_index, ↓aop_lookup, ↓aop_mapUpdate, ↓aop_insert, ↓aop_extract, ↓aop_callB, ↓aop_callF, ↓aop_callT, ↓aop_makeFunc, ↓aop_makeMap, ↓aop_slice, ↓aevs_nil, ↓aevs_cons, ↓evP_nil, ↓evP_cons, ↓aevO_none, ↓aevO_some, ↓reduceIte, reduceCtorEq, Nat.reduceEqDiff, Nat.reduceAdd, Nat.reduceLT, Nat.reduceSub, Nat.reduceMul, Nat.reduceLeDiff, if_true, if_false, if_pos, if_neg, st33, hx, hy]
  try rfl
theorem r33b {os : List Int} (ho : os.length = A.length) : roundA Try.cfg 33 iter (call Try.cfg) 0 a (st33 A C A.length os) = some (.exit 0, [(5, .ms 1 0 0 A.length 1)], [.cells true 0 [], .cells true 0 (os.map I)]) := by
  cases h
  simp -implicitDefEqProofs (disch := omega) only [push_cast, ↓dstAt_zero, ↓dstAt_succ, ↓arun_skip, ↓arun_region, ↓arun_seq, ↓arun_cond, ↓arun_block, ↓arun_loop, ↓arun_exit, ↓arun_ret, aops_nil, aops_cons, aops_cons_guard, ↓putA_some, ↓putA_none, ↓aop_move, ↓aop_assign, ↓aop_pick, ↓aop_alloc, ↓aop_box, ↓aop_build, ↓aop_buildSlice, ↓aop_load, ↓aop_store, ↓aop_nilCheck, ↓aop_binOp, ↓aop_unOp, ↓aop_convert, ↓aop_makeSlice, ↓aop_fieldAddr, ↓aop_field, ↓aop_indexAddr, ↓aop_index, ↓aop_lookup, ↓aop_mapUpdate, ↓aop_insert, ↓aop_extract, ↓aop_callB, ↓aop_callF, ↓aop_callT, ↓aop_makeFunc, ↓aop_makeMap, ↓aop_slice, ↓aevs_nil, ↓aevs_cons, ↓evP_nil, ↓evP_cons, ↓aevO_none, ↓aevO_some, ↓reduceIte, reduceCtorEq, Nat.reduceEqDiff, Nat.reduceAdd, Nat.reduceLT, Nat.reduceSub, Nat.reduceMul, Nat.reduceLeDiff, if_true, if_false, if_pos, if_neg, st33]
end
theorem call33 {A C : List Int} (hA : A.length ≤ 6) (hC : C.length = A.length) (hr : ∀ i, i < A.length → 0 ≤ C.getD i 0 ∧ C.getD i 0 < A.length) : call Try.cfg 33 [Is A, Is C] [] = some (.sl false A.length ((mulP A C).map I), []) := by
  refine call_step ?_
  cases hl : loopOf 0 Try.f33 with
  | none => cases hl
  | some a =>
    have hH := iter_run (S := fun i => st33 A C i (upto (fun j => A.getD (C.getD j 0).toNat 0) 0 A.length i)) (fun i hi => by
      show _ = some (Ex.normal, st33 A C (i + 1) (upto (fun j => A.getD (C.getD j 0).toNat 0) 0 A.length (i + 1)))
      rw [← upto_set (fun j => A.getD (C.getD j 0).toNat 0) 0 hi]
      exact r33a hl hA hC hr hi (upto_length _ _ _ _)) (r33b hl hA hC hr (upto_length _ _ _ _)) (by simp) A.length 0 (by omega)
    cases hl
    have hlen : (mulP A C).length = A.length := by simp [mulP]
    simp only [st33, Is, Int.natCast_zero, upto_zero, upto_all] at hH
    rw [show (List.range A.length).map (fun j => A.getD (C.getD j 0).toNat 0) = mulP A C from rfl] at hH
    simp -implicitDefEqProofs (disch := omega) only [stepA, bodyA, Try.cfgO, Try.sh33, Try.func33, Try.f33, push_cast, ↓dstAt_zero, ↓dstAt_succ, ↓arun_skip, ↓arun_region, ↓arun_seq, ↓arun_cond, ↓arun_block, ↓arun_loop, ↓arun_exit, ↓arun_ret, aops_nil, aops_cons, aops_cons_guard, ↓putA_some, ↓putA_none, ↓aop_move, ↓aop_assign, ↓aop_pick, ↓aop_alloc, ↓aop_box, ↓aop_build, ↓aop_buildSlice, ↓aop_load, ↓aop_store, ↓aop_nilCheck, ↓aop_binOp, ↓aop_unOp, ↓aop_convert, ↓aop_makeSlice, ↓aop_fieldAddr, ↓aop_field, ↓aop_indexAddr, ↓aop_index, ↓aop_lookup, ↓aop_mapUpdate, ↓aop_insert, ↓aop_extract, ↓aop_callB, ↓aop_callF, ↓aop_callT, ↓aop_makeFunc, ↓aop_makeMap, ↓aop_slice, ↓aevs_nil, ↓aevs_cons, ↓evP_nil, ↓evP_cons, ↓aevO_none, ↓aevO_some, ↓reduceIte, reduceCtorEq, Nat.reduceEqDiff, Nat.reduceAdd, Nat.reduceLT, Nat.reduceSub, Nat.reduceMul, Nat.reduceLeDiff, if_true, if_false, if_pos, if_neg, hH]
section
variable {a : Code} (h : loopOf 0 Try.f41 = some a) {A C : List Int} (hA : A.length ≤ 6) (hC : C.length = A.length) (hr : ∀ i, i < A.length → 0 ≤ C.getD i 0 ∧ C.getD i 0 < A.length)
include h hA hC hr
def st41 (A C : List Int) (i : Nat) (os : List Int) : St := ([(0, Is A), (1, Is C), (5, .ms 1 0 0 A.length 1), (6, I i)], [.cells true 0 [], .cells true 0 (os.map I)])
theorem r41a {i : Nat} {os : List Int} (hi : i < A.length) (ho : os.length = A.length) : roundA Try.cfg 41 iter (call Try.cfg) 0 a (st41 A C i os) = some (.normal, st41 A C (i + 1) (os.set i (A.getD (C.getD i 0).toNat 0))) := by
  cases h
  have h1 := hr i hi
  have hx : C[i]? = some (C.getD i 0) := get_of (by omega)
  generalize C.getD i 0 = x at *
  have hy : A[x.toNat]? = some (A.getD x.toNat 0) := get_of (by omega)
  simp -implicitDefEqProofs (disch := omega) only [push_cast, ↓dstAt_zero, ↓dstAt_succ, ↓arun_skip, ↓arun_region, ↓arun_seq, ↓arun_cond, ↓arun_block, ↓arun_loop, ↓arun_exit, ↓arun_ret, aops_nil, aops_cons, aops_cons_guard, ↓putA_some, ↓putA_none, ↓aop_move, ↓aop_assign, ↓aop_pick, ↓aop_alloc, ↓aop_box, ↓aop_build, ↓aop_buildSlice, ↓aop_load, ↓aop_store, ↓aop_nilCheck, ↓aop_binOp, ↓aop_unOp, ↓aop_convert, ↓aop_makeSlice, ↓aop_fieldAddr, ↓aop_field, ↓aop_indexAddr, ↓aop_index, ↓aop_lookup, ↓aop_mapUpdate, ↓aop_insert, ↓aop_extract, ↓aop_callB, ↓aop_callF, ↓aop_callT, ↓aop_makeFunc, ↓aop_makeMap, ↓aop_slice, ↓aevs_nil, ↓aevs_cons, ↓evP_nil, ↓evP_cons, ↓aevO_none, ↓aevO_some, ↓reduceIte, reduceCtorEq, Nat.reduceEqDiff, Nat.reduceAdd, Nat.reduceLT, Nat.reduceSub, Nat.reduceMul, Nat.reduceLeDiff, if_true, if_false, if_pos, if_neg, st41, hx, hy]
  try rfl
theorem r41b {os : List Int} (ho : os.length = A.length) : roundA Try.cfg 41 iter (call Try.cfg) 0 a (st41 A C A.length os) = some (.exit 0, [(5, .ms 1 0 0 A.length 1)], [.cells true 0 [], .cells true 0 (os.map I)]) := by
  cases h
  simp -implicitDefEqProofs (disch := omega) only [push_cast, ↓dstAt_zero, ↓dstAt_succ, ↓arun_skip, ↓arun_region, ↓arun_seq, ↓arun_cond, ↓arun_block, ↓arun_loop, ↓arun_exit, ↓arun_ret, aops_nil, aops_cons, aops_cons_guard, ↓putA_some, ↓putA_none, ↓aop_move, ↓aop_assign, ↓aop_pick, ↓aop_alloc, ↓aop_box, ↓aop_build, ↓aop_buildSlice, ↓aop_load, ↓aop_store, ↓aop_nilCheck, ↓aop_binOp, ↓aop_unOp, ↓aop_convert, ↓aop_makeSlice, ↓aop_fieldAddr, ↓aop_field, ↓aop_indexAddr, ↓aop_index, ↓aop_lookup, ↓aop_mapUpdate, ↓aop_insert, ↓aop_extract, ↓aop_callB, ↓aop_callF, ↓aop_callT, ↓aop_makeFunc, ↓aop_makeMap, ↓aop_slice, ↓aevs_nil, ↓aevs_cons, ↓evP_nil, ↓evP_cons, ↓aevO_none, ↓aevO_some, ↓reduceIte, reduceCtorEq, Nat.reduceEqDiff, Nat.reduceAdd, Nat.reduceLT, Nat.reduceSub, Nat.reduceMul, Nat.reduceLeDiff, if_true, if_false, if_pos, if_neg, st41]
end
theorem call41 {A C : List Int} (hA : A.length ≤ 6) (hC : C.length = A.length) (hr : ∀ i, i < A.length → 0 ≤ C.getD i 0 ∧ C.getD i 0 < A.length) : call Try.cfg 41 [Is A, Is C] [] = some (.sl false A.length ((mulP A C).map I), []) := by
  refine call_step ?_
  cases hl : loopOf 0 Try.f41 with
  | none => cases hl
  | some a =>
    have hH := iter_run (S := fun i => st41 A C i (upto (fun j => A.getD (C.getD j 0).toNat 0) 0 A.length i)) (fun i hi => by
      show _ = some (Ex.normal, st41 A C (i + 1) (upto (fun j => A.getD (C.getD j 0).toNat 0) 0 A.length (i + 1)))
      rw [← upto_set (fun j => A.getD (C.getD j 0).toNat 0) 0 hi]
      exact r41a hl hA hC hr hi (upto_length _ _ _ _)) (r41b hl hA hC hr (upto_length _ _ _ _)) (by simp) A.length 0 (by omega)
    cases hl
    have hlen : (mulP A C).length = A.length := by simp [mulP]
    simp only [st41, Is, Int.natCast_zero, upto_zero, upto_all] at hH
    rw [show (List.range A.length).map (fun j => A.getD (C.getD j 0).toNat 0) = mulP A C from rfl] at hH
    simp -implicitDefEqProofs (disch := omega) only [stepA, bodyA, Try.cfgO, Try.sh41, Try.func41, Try.f41, push_cast, ↓dstAt_zero, ↓dstAt_succ, ↓arun_skip, ↓arun_region, ↓arun_seq, ↓arun_cond, ↓arun_block, ↓arun_loop, ↓arun_exit, ↓arun_ret, aops_nil, aops_cons, aops_cons_guard, ↓putA_some, ↓putA_none, ↓aop_move, ↓aop_assign, ↓aop_pick, ↓aop_alloc, ↓aop_box, ↓aop_build, ↓aop_buildSlice, ↓aop_load, ↓aop_store, ↓aop_nilCheck, ↓aop_binOp, ↓aop_unOp, ↓aop_convert, ↓aop_makeSlice, ↓aop_fieldAddr, ↓aop_field, ↓aop_indexAddr, ↓aop_index, ↓aop_lookup, ↓aop_mapUpdate, ↓aop_insert, ↓aop_extract, ↓aop_callB, ↓aop_callF, ↓aop_callT, ↓aop_makeFunc, ↓aop_makeMap, ↓aop_slice, ↓aevs_nil, ↓aevs_cons, ↓evP_nil, ↓evP_cons, ↓aevO_none, ↓aevO_some, ↓reduceIte, reduceCtorEq, Nat.reduceEqDiff, Nat.reduceAdd, Nat.reduceLT, Nat.reduceSub, Nat.reduceMul, Nat.reduceLeDiff, if_true, if_false, if_pos, if_neg, hH]
end Go.Proofs

/- Compose, ref.Compose, Inverse, ref.Inverse. -/
set_option linter.unusedVariables false
set_option linter.unusedSimpArgs false
set_option linter.unusedSectionVars false
namespace Go.Proofs
open Go.AI
set_option maxRecDepth 20000
theorem seenL_range (n : Int) : ∀ (l : List Int) (bs : List Bool), seenL n l bs = true → ∀ x ∈ l, 0 ≤ x ∧ x < n
  | [], _, _, x, hx => by cases hx
  | y :: r, bs, h, x, hx => by
    simp only [seenL] at h
    split at h
    · cases h
    · split at h
      · cases h
      · split at h
        · cases h
        · rcases List.mem_cons.1 hx with rfl | hx
          · omega
          · exact seenL_range n r _ h x hx
theorem valid_len {A : List Int} (h : validL A = true) : A.length ≤ 6 := by
  simp only [validL, Bool.and_eq_true, decide_eq_true_eq] at h
  exact h.1
theorem valid_range {A : List Int} (h : validL A = true) {i : Nat} (hi : i < A.length) : 0 ≤ A.getD i 0 ∧ A.getD i 0 < A.length := by
  simp only [validL, Bool.and_eq_true, decide_eq_true_eq] at h
  refine seenL_range _ A _ h.2 _ ?_
  have : A.getD i 0 = A[i] := by simp [hi]
  rw [this]
  exact List.getElem_mem hi
theorem call23u {A : List Int} (hA : A.length ≤ 1000) : call Try.cfg 23 [.sl false A.length (A.map I)] [] = some (.v (.bool (validL A)), []) := call23 A hA
theorem call24u {A : List Int} (hA : A.length ≤ 1000) : call Try.cfg 24 [.sl false A.length (A.map I)] [] = some (.v (.bool (validL A)), []) := call24 A hA
def compL (A C : List Int) : List Int × Int := if validL A && validL C then (if A.length = C.length then (mulP A C, 0) else ([], 4)) else ([], 1)
def rep2 (r : List Int × Int) : AV := .tu [Is r.1, I r.2]
theorem mulP_length (A C : List Int) : (mulP A C).length = A.length := by simp [mulP]
theorem call33u {A C : List Int} (hA : A.length ≤ 6) (hC : C.length = A.length) (hr : ∀ i, i < A.length → 0 ≤ C.getD i 0 ∧ C.getD i 0 < A.length) : call Try.cfg 33 [.sl false A.length (A.map I), .sl false C.length (C.map I)] [] = some (.sl false A.length ((mulP A C).map I), []) := call33 hA hC hr
theorem call41u {A C : List Int} (hA : A.length ≤ 6) (hC : C.length = A.length) (hr : ∀ i, i < A.length → 0 ≤ C.getD i 0 ∧ C.getD i 0 < A.length) : call Try.cfg 41 [.sl false A.length (A.map I), .sl false C.length (C.map I)] [] = some (.sl false A.length ((mulP A C).map I), []) := call41 hA hC hr
theorem call17 {A C : List Int} (hA : A.length ≤ 1000) (hC : C.length ≤ 1000) : call Try.cfg 17 [Is A, Is C] [] = some (rep2 (compL A C), []) := by
  refine call_step ?_
  have v1 := call23u hA
  have v2 := call23u hC
  cases hv : validL A with
  | false =>
    rw [hv] at v1
    have e : compL A C = ([], 1) := by simp [compL, hv]
    rw [e]
    simp -implicitDefEqProofs (maxSteps := 1000000) (disch := omega) only [stepA, bodyA, Try.cfgO, Try.sh17, Try.sh23, Try.func17, Try.f17, push_cast, ↓dstAt_zero, ↓dstAt_succ, ↓arun_skip, ↓arun_region, ↓arun_seq, ↓arun_cond, ↓arun_block, ↓arun_loop, ↓arun_exit, ↓arun_ret, aops_nil, aops_cons, aops_cons_guard, ↓putA_some, ↓putA_none, ↓aop_move, ↓aop_assign, ↓aop_pick, ↓aop_alloc, ↓aop_box, ↓aop_build, ↓aop_buildSlice, ↓aop_load, ↓aop_store, ↓aop_nilCheck, ↓aop_binOp, ↓aop_unOp, ↓aop_convert, ↓aop_makeSlice, ↓aop_fieldAddr, ↓aop_field, ↓aop_indexAddr, ↓aop_index, ↓aop_lookup, ↓aop_mapUpdate, ↓aop_insert, ↓aop_extract, ↓aop_callB, ↓aop_callF, ↓aop_callT, ↓aop_makeFunc, ↓aop_makeMap, ↓aop_slice, ↓aevs_nil, ↓aevs_cons, ↓evP_nil, ↓evP_cons, ↓aevO_none, ↓aevO_some, ↓reduceIte, reduceCtorEq, Nat.reduceEqDiff, Nat.reduceAdd, Nat.reduceLT, Nat.reduceSub, Nat.reduceMul, Nat.reduceLeDiff, if_true, if_false, if_pos, if_neg, v1, rep2]
    try rfl
  | true =>
    rw [hv] at v1
    cases hw : validL C with
    | false =>
      rw [hw] at v2
      have e : compL A C = ([], 1) := by simp [compL, hv, hw]
      rw [e]
      simp -implicitDefEqProofs (maxSteps := 1000000) (disch := omega) only [stepA, bodyA, Try.cfgO, Try.sh17, Try.sh23, Try.func17, Try.f17, push_cast, ↓dstAt_zero, ↓dstAt_succ, ↓arun_skip, ↓arun_region, ↓arun_seq, ↓arun_cond, ↓arun_block, ↓arun_loop, ↓arun_exit, ↓arun_ret, aops_nil, aops_cons, aops_cons_guard, ↓putA_some, ↓putA_none, ↓aop_move, ↓aop_assign, ↓aop_pick, ↓aop_alloc, ↓aop_box, ↓aop_build, ↓aop_buildSlice, ↓aop_load, ↓aop_store, ↓aop_nilCheck, ↓aop_binOp, ↓aop_unOp, ↓aop_convert, ↓aop_makeSlice, ↓aop_fieldAddr, ↓aop_field, ↓aop_indexAddr, ↓aop_index, ↓aop_lookup, ↓aop_mapUpdate, ↓aop_insert, ↓aop_extract, ↓aop_callB, ↓aop_callF, ↓aop_callT, ↓aop_makeFunc, ↓aop_makeMap, ↓aop_slice, ↓aevs_nil, ↓aevs_cons, ↓evP_nil, ↓evP_cons, ↓aevO_none, ↓aevO_some, ↓reduceIte, reduceCtorEq, Nat.reduceEqDiff, Nat.reduceAdd, Nat.reduceLT, Nat.reduceSub, Nat.reduceMul, Nat.reduceLeDiff, if_true, if_false, if_pos, if_neg, v1, v2, rep2]
      try rfl
    | true =>
      rw [hw] at v2
      have h6 := valid_len hv
      by_cases hl : A.length = C.length
      · have e : compL A C = (mulP A C, 0) := by simp [compL, hv, hw, hl]
        rw [e]
        have hm := call33u (A := A) (C := C) h6 hl.symm (fun i hi => by rw [hl]; exact valid_range hw (by omega))
        have hlen := mulP_length A C
        simp -implicitDefEqProofs (maxSteps := 1000000) (disch := omega) only [stepA, bodyA, Try.cfgO, Try.sh17, Try.sh23, Try.sh33, Try.func17, Try.f17, push_cast, ↓dstAt_zero, ↓dstAt_succ, ↓arun_skip, ↓arun_region, ↓arun_seq, ↓arun_cond, ↓arun_block, ↓arun_loop, ↓arun_exit, ↓arun_ret, aops_nil, aops_cons, aops_cons_guard, ↓putA_some, ↓putA_none, ↓aop_move, ↓aop_assign, ↓aop_pick, ↓aop_alloc, ↓aop_box, ↓aop_build, ↓aop_buildSlice, ↓aop_load, ↓aop_store, ↓aop_nilCheck, ↓aop_binOp, ↓aop_unOp, ↓aop_convert, ↓aop_makeSlice, ↓aop_fieldAddr, ↓aop_field, ↓aop_indexAddr, ↓aop_index, ↓aop_lookup, ↓aop_mapUpdate, ↓aop_insert, ↓aop_extract, ↓aop_callB, ↓aop_callF, ↓aop_callT, ↓aop_makeFunc, ↓aop_makeMap, ↓aop_slice, ↓aevs_nil, ↓aevs_cons, ↓evP_nil, ↓evP_cons, ↓aevO_none, ↓aevO_some, ↓reduceIte, reduceCtorEq, Nat.reduceEqDiff, Nat.reduceAdd, Nat.reduceLT, Nat.reduceSub, Nat.reduceMul, Nat.reduceLeDiff, if_true, if_false, if_pos, if_neg, v1, v2, hm, rep2, hlen]
        try rfl
      · have e : compL A C = ([], 4) := by simp [compL, hv, hw, hl]
        rw [e]
        simp -implicitDefEqProofs (maxSteps := 1000000) (disch := omega) only [stepA, bodyA, Try.cfgO, Try.sh17, Try.sh23, Try.func17, Try.f17, push_cast, ↓dstAt_zero, ↓dstAt_succ, ↓arun_skip, ↓arun_region, ↓arun_seq, ↓arun_cond, ↓arun_block, ↓arun_loop, ↓arun_exit, ↓arun_ret, aops_nil, aops_cons, aops_cons_guard, ↓putA_some, ↓putA_none, ↓aop_move, ↓aop_assign, ↓aop_pick, ↓aop_alloc, ↓aop_box, ↓aop_build, ↓aop_buildSlice, ↓aop_load, ↓aop_store, ↓aop_nilCheck, ↓aop_binOp, ↓aop_unOp, ↓aop_convert, ↓aop_makeSlice, ↓aop_fieldAddr, ↓aop_field, ↓aop_indexAddr, ↓aop_index, ↓aop_lookup, ↓aop_mapUpdate, ↓aop_insert, ↓aop_extract, ↓aop_callB, ↓aop_callF, ↓aop_callT, ↓aop_makeFunc, ↓aop_makeMap, ↓aop_slice, ↓aevs_nil, ↓aevs_cons, ↓evP_nil, ↓evP_cons, ↓aevO_none, ↓aevO_some, ↓reduceIte, reduceCtorEq, Nat.reduceEqDiff, Nat.reduceAdd, Nat.reduceLT, Nat.reduceSub, Nat.reduceMul, Nat.reduceLeDiff, if_true, if_false, if_pos, if_neg, v1, v2, rep2]
        try rfl
theorem call21 {A C : List Int} (hA : A.length ≤ 1000) (hC : C.length ≤ 1000) : call Try.cfg 21 [Is A, Is C] [] = some (rep2 (compL A C), []) := by
  refine call_step ?_
  have v1 := call24u hA
  have v2 := call24u hC
  cases hv : validL A with
  | false =>
    rw [hv] at v1
    have e : compL A C = ([], 1) := by simp [compL, hv]
    rw [e]
    simp -implicitDefEqProofs (maxSteps := 1000000) (disch := omega) only [stepA, bodyA, Try.cfgO, Try.sh21, Try.sh24, Try.func21, Try.f21, push_cast, ↓dstAt_zero, ↓dstAt_succ, ↓arun_skip, ↓arun_region, ↓arun_seq, ↓arun_cond, ↓arun_block, ↓arun_loop, ↓arun_exit, ↓arun_ret, aops_nil, aops_cons, aops_cons_guard, ↓putA_some, ↓putA_none, ↓aop_move, ↓aop_assign, ↓aop_pick, ↓aop_alloc, ↓aop_box, ↓aop_build, ↓aop_buildSlice, ↓aop_load, ↓aop_store, ↓aop_nilCheck, ↓aop_binOp, ↓aop_unOp, ↓aop_convert, ↓aop_makeSlice, ↓aop_fieldAddr, ↓aop_field, ↓aop_indexAddr, ↓aop_index, ↓aop_lookup, ↓aop_mapUpdate, ↓aop_insert, ↓aop_extract, ↓aop_callB, ↓aop_callF, ↓aop_callT, ↓aop_makeFunc, ↓aop_makeMap, ↓aop_slice, ↓aevs_nil, ↓aevs_cons, ↓evP_nil, ↓evP_cons, ↓aevO_none, ↓aevO_some, ↓reduceIte, reduceCtorEq, Nat.reduceEqDiff, Nat.reduceAdd, Nat.reduceLT, Nat.reduceSub, Nat.reduceMul, Nat.reduceLeDiff, if_true, if_false, if_pos, if_neg, v1, rep2]
    try rfl
  | true =>
    rw [hv] at v1
    cases hw : validL C with
    | false =>
      rw [hw] at v2
      have e : compL A C = ([], 1) := by simp [compL, hv, hw]
      rw [e]
      simp -implicitDefEqProofs (maxSteps := 1000000) (disch := omega) only [stepA, bodyA, Try.cfgO, Try.sh21, Try.sh24, Try.func21, Try.f21, push_cast, ↓dstAt_zero, ↓dstAt_succ, ↓arun_skip, ↓arun_region, ↓arun_seq, ↓arun_cond, ↓arun_block, ↓arun_loop, ↓arun_exit, ↓arun_ret, aops_nil, aops_cons, aops_cons_guard, ↓putA_some, ↓putA_none, ↓aop_move, ↓aop_assign, ↓aop_pick, ↓aop_alloc, ↓aop_box, ↓aop_build, ↓aop_buildSlice, ↓aop_load, ↓aop_store, ↓aop_nilCheck, ↓aop_binOp, ↓aop_unOp, ↓aop_convert, ↓aop_makeSlice, ↓aop_fieldAddr, ↓aop_field, ↓aop_indexAddr, ↓aop_index, ↓aop_lookup, ↓aop_mapUpdate, ↓aop_insert, ↓aop_extract, ↓aop_callB, ↓aop_callF, ↓aop_callT, ↓aop_makeFunc, ↓aop_makeMap, ↓aop_slice, ↓aevs_nil, ↓aevs_cons, ↓evP_nil, ↓evP_cons, ↓aevO_none, ↓aevO_some, ↓reduceIte, reduceCtorEq, Nat.reduceEqDiff, Nat.reduceAdd, Nat.reduceLT, Nat.reduceSub, Nat.reduceMul, Nat.reduceLeDiff, if_true, if_false, if_pos, if_neg, v1, v2, rep2]
      try rfl
    | true =>
      rw [hw] at v2
      have h6 := valid_len hv
      by_cases hl : A.length = C.length
      · have e : compL A C = (mulP A C, 0) := by simp [compL, hv, hw, hl]
        rw [e]
        have hm := call41u (A := A) (C := C) h6 hl.symm (fun i hi => by rw [hl]; exact valid_range hw (by omega))
        have hlen := mulP_length A C
        simp -implicitDefEqProofs (maxSteps := 1000000) (disch := omega) only [stepA, bodyA, Try.cfgO, Try.sh21, Try.sh24, Try.sh41, Try.func21, Try.f21, push_cast, ↓dstAt_zero, ↓dstAt_succ, ↓arun_skip, ↓arun_region, ↓arun_seq, ↓arun_cond, ↓arun_block, ↓arun_loop, ↓arun_exit, ↓arun_ret, aops_nil, aops_cons, aops_cons_guard, ↓putA_some, ↓putA_none, ↓aop_move, ↓aop_assign, ↓aop_pick, ↓aop_alloc, ↓aop_box, ↓aop_build, ↓aop_buildSlice, ↓aop_load, ↓aop_store, ↓aop_nilCheck, ↓aop_binOp, ↓aop_unOp, ↓aop_convert, ↓aop_makeSlice, ↓aop_fieldAddr, ↓aop_field, ↓aop_indexAddr, ↓aop_index, ↓aop_lookup, ↓aop_mapUpdate, ↓aop_insert, ↓aop_extract, ↓aop_callB, ↓aop_callF, ↓aop_callT, ↓aop_makeFunc, ↓aop_makeMap, ↓aop_slice, ↓aevs_nil, ↓aevs_cons, ↓evP_nil, ↓evP_cons, ↓aevO_none, ↓aevO_some, ↓reduceIte, reduceCtorEq, Nat.reduceEqDiff, Nat.reduceAdd, Nat.reduceLT, Nat.reduceSub, Nat.reduceMul, Nat.reduceLeDiff, if_true, if_false, if_pos, if_neg, v1, v2, hm, rep2, hlen]
        try rfl
      · have e : compL A C = ([], 4) := by simp [compL, hv, hw, hl]
        rw [e]
        simp -implicitDefEqProofs (maxSteps := 1000000) (disch := omega) only [stepA, bodyA, Try.cfgO, Try.sh21, Try.sh24, Try.func21, Try.f21, push_cast, ↓dstAt_zero, ↓dstAt_succ, ↓arun_skip, ↓arun_region, ↓arun_seq, ↓arun_cond, ↓arun_block, ↓arun_loop, ↓arun_exit, ↓arun_ret, aops_nil, aops_cons, aops_cons_guard, ↓putA_some, ↓putA_none, ↓aop_move, ↓aop_assign, ↓aop_pick, ↓aop_alloc, ↓aop_box, ↓aop_build, ↓aop_buildSlice, ↓aop_load, ↓aop_store, ↓aop_nilCheck, ↓aop_binOp, ↓aop_unOp, ↓aop_convert, ↓aop_makeSlice, ↓aop_fieldAddr, ↓aop_field, ↓aop_indexAddr, ↓aop_index, ↓aop_lookup, ↓aop_mapUpdate, ↓aop_insert, ↓aop_extract, ↓aop_callB, ↓aop_callF, ↓aop_callT, ↓aop_makeFunc, ↓aop_makeMap, ↓aop_slice, ↓aevs_nil, ↓aevs_cons, ↓evP_nil, ↓evP_cons, ↓aevO_none, ↓aevO_some, ↓reduceIte, reduceCtorEq, Nat.reduceEqDiff, Nat.reduceAdd, Nat.reduceLT, Nat.reduceSub, Nat.reduceMul, Nat.reduceLeDiff, if_true, if_false, if_pos, if_neg, v1, v2, rep2]
        try rfl
end Go.Proofs

/- Inverse, ref.Inverse. -/
set_option linter.unusedVariables false
set_option linter.unusedSimpArgs false
set_option linter.unusedSectionVars false
namespace Go.Proofs
open Go.AI
set_option maxRecDepth 20000
def invS (A : List Int) : Nat → List Int
  | 0 => List.replicate A.length 0
  | i + 1 => (invS A i).set (A.getD i 0).toNat i
theorem invS_length (A : List Int) : ∀ i, (invS A i).length = A.length
  | 0 => by simp [invS]
  | i + 1 => by simp [invS, invS_length A i]
def invL (A : List Int) : List Int × Int := if validL A then (invS A A.length, 0) else ([], 1)
section
variable {a : Code} (h : loopOf 0 Try.f18 = some a) {A : List Int} (hv : validL A = true)
include h hv
def st18 (A : List Int) (i : Nat) (os : List Int) : St := ([(4, .ms 1 0 0 A.length 1), (13, Is A), (14, I A.length), (15, I i)], [.cells true 0 [], .cells true 0 (os.map I)])
theorem r18a {i : Nat} {os : List Int} (hi : i < A.length) (ho : os.length = A.length) : roundA Try.cfg 18 iter (call Try.cfg) 0 a (st18 A i os) = some (.normal, st18 A (i + 1) (os.set (A.getD i 0).toNat i)) := by
  cases h
  have h6 := valid_len hv
  have h1 := valid_range hv hi
  have hx : A[i]? = some (A.getD i 0) := by simp [hi]
  generalize A.getD i 0 = x at *
  simp -implicitDefEqProofs (maxSteps := 1000000) (disch := omega) only [push_cast, ↓dstAt_zero, ↓dstAt_succ, ↓arun_skip, ↓arun_region, ↓arun_seq, ↓arun_cond, ↓arun_block, ↓arun_loop, ↓arun_exit, ↓arun_ret, aops_nil, aops_cons, aops_cons_guard, ↓putA_some, ↓putA_none, ↓aop_move, ↓aop_assign, ↓aop_pick, ↓aop_alloc, ↓aop_box, ↓aop_build, ↓aop_buildSlice, ↓aop_load, ↓aop_store, ↓aop_nilCheck, ↓aop_binOp, ↓aop_unOp, ↓aop_convert, ↓aop_makeSlice, ↓aop_fieldAddr, ↓aop_field, ↓aop_indexAddr, ↓aop_index, ↓aop_lookup, ↓aop_mapUpdate, ↓aop_insert, ↓aop_extract, ↓aop_callB, ↓aop_callF, ↓aop_callT, ↓aop_makeFunc, ↓aop_makeMap, ↓aop_slice, ↓aevs_nil, ↓aevs_cons, ↓evP_nil, ↓evP_cons, ↓aevO_none, ↓aevO_some, ↓reduceIte, reduceCtorEq, Nat.reduceEqDiff, Nat.reduceAdd, Nat.reduceLT, Nat.reduceSub, Nat.reduceMul, Nat.reduceLeDiff, if_true, if_false, if_pos, if_neg, st18, hx]
  try rfl
theorem r18b {os : List Int} (ho : os.length = A.length) : roundA Try.cfg 18 iter (call Try.cfg) 0 a (st18 A A.length os) = some (.exit 0, [(4, .ms 1 0 0 A.length 1)], [.cells true 0 [], .cells true 0 (os.map I)]) := by
  cases h
  have h6 := valid_len hv
  simp -implicitDefEqProofs (maxSteps := 1000000) (disch := omega) only [push_cast, ↓dstAt_zero, ↓dstAt_succ, ↓arun_skip, ↓arun_region, ↓arun_seq, ↓arun_cond, ↓arun_block, ↓arun_loop, ↓arun_exit, ↓arun_ret, aops_nil, aops_cons, aops_cons_guard, ↓putA_some, ↓putA_none, ↓aop_move, ↓aop_assign, ↓aop_pick, ↓aop_alloc, ↓aop_box, ↓aop_build, ↓aop_buildSlice, ↓aop_load, ↓aop_store, ↓aop_nilCheck, ↓aop_binOp, ↓aop_unOp, ↓aop_convert, ↓aop_makeSlice, ↓aop_fieldAddr, ↓aop_field, ↓aop_indexAddr, ↓aop_index, ↓aop_lookup, ↓aop_mapUpdate, ↓aop_insert, ↓aop_extract, ↓aop_callB, ↓aop_callF, ↓aop_callT, ↓aop_makeFunc, ↓aop_makeMap, ↓aop_slice, ↓aevs_nil, ↓aevs_cons, ↓evP_nil, ↓evP_cons, ↓aevO_none, ↓aevO_some, ↓reduceIte, reduceCtorEq, Nat.reduceEqDiff, Nat.reduceAdd, Nat.reduceLT, Nat.reduceSub, Nat.reduceMul, Nat.reduceLeDiff, if_true, if_false, if_pos, if_neg, st18]
end
theorem call18 {A : List Int} (hA : A.length ≤ 1000) : call Try.cfg 18 [Is A] [] = some (rep2 (invL A), []) := by
  refine call_step ?_
  have v1 := call23u hA
  cases hv : validL A with
  | false =>
    rw [hv] at v1
    have e : invL A = ([], 1) := by simp [invL, hv]
    rw [e]
    simp -implicitDefEqProofs (maxSteps := 1000000) (disch := omega) only [stepA, bodyA, Try.cfgO, Try.sh18, Try.sh23, Try.func18, Try.f18, push_cast, ↓dstAt_zero, ↓dstAt_succ, ↓arun_skip, ↓arun_region, ↓arun_seq, ↓arun_cond, ↓arun_block, ↓arun_loop, ↓arun_exit, ↓arun_ret, aops_nil, aops_cons, aops_cons_guard, ↓putA_some, ↓putA_none, ↓aop_move, ↓aop_assign, ↓aop_pick, ↓aop_alloc, ↓aop_box, ↓aop_build, ↓aop_buildSlice, ↓aop_load, ↓aop_store, ↓aop_nilCheck, ↓aop_binOp, ↓aop_unOp, ↓aop_convert, ↓aop_makeSlice, ↓aop_fieldAddr, ↓aop_field, ↓aop_indexAddr, ↓aop_index, ↓aop_lookup, ↓aop_mapUpdate, ↓aop_insert, ↓aop_extract, ↓aop_callB, ↓aop_callF, ↓aop_callT, ↓aop_makeFunc, ↓aop_makeMap, ↓aop_slice, ↓aevs_nil, ↓aevs_cons, ↓evP_nil, ↓evP_cons, ↓aevO_none, ↓aevO_some, ↓reduceIte, reduceCtorEq, Nat.reduceEqDiff, Nat.reduceAdd, Nat.reduceLT, Nat.reduceSub, Nat.reduceMul, Nat.reduceLeDiff, if_true, if_false, if_pos, if_neg, v1, rep2]
    try rfl
  | true =>
    rw [hv] at v1
    have h6 := valid_len hv
    have e : invL A = (invS A A.length, 0) := by simp [invL, hv]
    rw [e]
    cases hl : loopOf 0 Try.f18 with
    | none => cases hl
    | some a =>
      have hH := iter_run (S := fun i => st18 A i (invS A i)) (fun i hi => r18a hl hv hi (invS_length A i)) (r18b hl hv (invS_length A A.length)) (by simp) A.length 0 (by omega)
      cases hl
      have hlen := invS_length A A.length
      have e0 : invS A 0 = List.replicate A.length 0 := rfl
      simp only [st18, Is, Int.natCast_zero, e0] at hH
      generalize invS A A.length = os at *
      simp -implicitDefEqProofs (maxSteps := 1000000) (disch := omega) only [stepA, bodyA, Try.cfgO, Try.sh18, Try.sh23, Try.func18, Try.f18, push_cast, ↓dstAt_zero, ↓dstAt_succ, ↓arun_skip, ↓arun_region, ↓arun_seq, ↓arun_cond, ↓arun_block, ↓arun_loop, ↓arun_exit, ↓arun_ret, aops_nil, aops_cons, aops_cons_guard, ↓putA_some, ↓putA_none, ↓aop_move, ↓aop_assign, ↓aop_pick, ↓aop_alloc, ↓aop_box, ↓aop_build, ↓aop_buildSlice, ↓aop_load, ↓aop_store, ↓aop_nilCheck, ↓aop_binOp, ↓aop_unOp, ↓aop_convert, ↓aop_makeSlice, ↓aop_fieldAddr, ↓aop_field, ↓aop_indexAddr, ↓aop_index, ↓aop_lookup, ↓aop_mapUpdate, ↓aop_insert, ↓aop_extract, ↓aop_callB, ↓aop_callF, ↓aop_callT, ↓aop_makeFunc, ↓aop_makeMap, ↓aop_slice, ↓aevs_nil, ↓aevs_cons, ↓evP_nil, ↓evP_cons, ↓aevO_none, ↓aevO_some, ↓reduceIte, reduceCtorEq, Nat.reduceEqDiff, Nat.reduceAdd, Nat.reduceLT, Nat.reduceSub, Nat.reduceMul, Nat.reduceLeDiff, if_true, if_false, if_pos, if_neg, v1, hH, rep2, hlen]
      try rfl
section
variable {a : Code} (h : loopOf 0 Try.f22 = some a) {A : List Int} (hv : validL A = true)
include h hv
def st22 (A : List Int) (i : Nat) (os : List Int) : St := ([(0, Is A), (4, .ms 1 0 0 A.length 1), (5, I i)], [.cells true 0 [], .cells true 0 (os.map I)])
theorem r22a {i : Nat} {os : List Int} (hi : i < A.length) (ho : os.length = A.length) : roundA Try.cfg 22 iter (call Try.cfg) 0 a (st22 A i os) = some (.normal, st22 A (i + 1) (os.set (A.getD i 0).toNat i)) := by
  cases h
  have h6 := valid_len hv
  have h1 := valid_range hv hi
  have hx : A[i]? = some (A.getD i 0) := by simp [hi]
  generalize A.getD i 0 = x at *
  simp -implicitDefEqProofs (maxSteps := 1000000) (disch := omega) only [push_cast, ↓dstAt_zero, ↓dstAt_succ, ↓arun_skip, ↓arun_region, ↓arun_seq, ↓arun_cond, ↓arun_block, ↓arun_loop, ↓arun_exit, ↓arun_ret, aops_nil, aops_cons, aops_cons_guard, ↓putA_some, ↓putA_none, ↓aop_move, ↓aop_assign, ↓aop_pick, ↓aop_alloc, ↓aop_box, ↓aop_build, ↓aop_buildSlice, ↓aop_load, ↓aop_store, ↓aop_nilCheck, ↓aop_binOp, ↓aop_unOp, ↓aop_convert, ↓aop_makeSlice, ↓aop_fieldAddr, ↓aop_field, ↓aop_indexAddr, ↓aop_index, ↓aop_lookup, ↓aop_mapUpdate, ↓aop_insert, ↓aop_extract, ↓aop_callB, ↓aop_callF, ↓aop_callT, ↓aop_makeFunc, ↓aop_makeMap, ↓aop_slice, ↓aevs_nil, ↓aevs_cons, ↓evP_nil, ↓evP_cons, ↓aevO_none, ↓aevO_some, ↓reduceIte, reduceCtorEq, Nat.reduceEqDiff, Nat.reduceAdd, Nat.reduceLT, Nat.reduceSub, Nat.reduceMul, Nat.reduceLeDiff, if_true, if_false, if_pos, if_neg, st22, hx]
  try rfl
theorem r22b {os : List Int} (ho : os.length = A.length) : roundA Try.cfg 22 iter (call Try.cfg) 0 a (st22 A A.length os) = some (.exit 0, [(4, .ms 1 0 0 A.length 1)], [.cells true 0 [], .cells true 0 (os.map I)]) := by
  cases h
  have h6 := valid_len hv
  simp -implicitDefEqProofs (maxSteps := 1000000) (disch := omega) only [push_cast, ↓dstAt_zero, ↓dstAt_succ, ↓arun_skip, ↓arun_region, ↓arun_seq, ↓arun_cond, ↓arun_block, ↓arun_loop, ↓arun_exit, ↓arun_ret, aops_nil, aops_cons, aops_cons_guard, ↓putA_some, ↓putA_none, ↓aop_move, ↓aop_assign, ↓aop_pick, ↓aop_alloc, ↓aop_box, ↓aop_build, ↓aop_buildSlice, ↓aop_load, ↓aop_store, ↓aop_nilCheck, ↓aop_binOp, ↓aop_unOp, ↓aop_convert, ↓aop_makeSlice, ↓aop_fieldAddr, ↓aop_field, ↓aop_indexAddr, ↓aop_index, ↓aop_lookup, ↓aop_mapUpdate, ↓aop_insert, ↓aop_extract, ↓aop_callB, ↓aop_callF, ↓aop_callT, ↓aop_makeFunc, ↓aop_makeMap, ↓aop_slice, ↓aevs_nil, ↓aevs_cons, ↓evP_nil, ↓evP_cons, ↓aevO_none, ↓aevO_some, ↓reduceIte, reduceCtorEq, Nat.reduceEqDiff, Nat.reduceAdd, Nat.reduceLT, Nat.reduceSub, Nat.reduceMul, Nat.reduceLeDiff, if_true, if_false, if_pos, if_neg, st22]
end
theorem call22 {A : List Int} (hA : A.length ≤ 1000) : call Try.cfg 22 [Is A] [] = some (rep2 (invL A), []) := by
  refine call_step ?_
  have v1 := call24u hA
  cases hv : validL A with
  | false =>
    rw [hv] at v1
    have e : invL A = ([], 1) := by simp [invL, hv]
    rw [e]
    simp -implicitDefEqProofs (maxSteps := 1000000) (disch := omega) only [stepA, bodyA, Try.cfgO, Try.sh22, Try.sh24, Try.func22, Try.f22, push_cast, ↓dstAt_zero, ↓dstAt_succ, ↓arun_skip, ↓arun_region, ↓arun_seq, ↓arun_cond, ↓arun_block, ↓arun_loop, ↓arun_exit, ↓arun_ret, aops_nil, aops_cons, aops_cons_guard, ↓putA_some, ↓putA_none, ↓aop_move, ↓aop_assign, ↓aop_pick, ↓aop_alloc, ↓aop_box, ↓aop_build, ↓aop_buildSlice, ↓aop_load, ↓aop_store, ↓aop_nilCheck, ↓aop_binOp, ↓aop_unOp, ↓aop_convert, ↓aop_makeSlice, ↓aop_fieldAddr, ↓aop_field, ↓aop_indexAddr, ↓aop_index, ↓aop_lookup, ↓aop_mapUpdate, ↓aop_insert, ↓aop_extract, ↓aop_callB, ↓aop_callF, ↓aop_callT, ↓aop_makeFunc, ↓aop_makeMap, ↓aop_slice, ↓aevs_nil, ↓aevs_cons, ↓evP_nil, ↓evP_cons, ↓aevO_none, ↓aevO_some, ↓reduceIte, reduceCtorEq, Nat.reduceEqDiff, Nat.reduceAdd, Nat.reduceLT, Nat.reduceSub, Nat.reduceMul, Nat.reduceLeDiff, if_true, if_false, if_pos, if_neg, v1, rep2]
    try rfl
  | true =>
    rw [hv] at v1
    have h6 := valid_len hv
    have e : invL A = (invS A A.length, 0) := by simp [invL, hv]
    rw [e]
    cases hl : loopOf 0 Try.f22 with
    | none => cases hl
    | some a =>
      have hH := iter_run (S := fun i => st22 A i (invS A i)) (fun i hi => r22a hl hv hi (invS_length A i)) (r22b hl hv (invS_length A A.length)) (by simp) A.length 0 (by omega)
      cases hl
      have hlen := invS_length A A.length
      have e0 : invS A 0 = List.replicate A.length 0 := rfl
      simp only [st22, Is, Int.natCast_zero, e0] at hH
      generalize invS A A.length = os at *
      simp -implicitDefEqProofs (maxSteps := 1000000) (disch := omega) only [stepA, bodyA, Try.cfgO, Try.sh22, Try.sh24, Try.func22, Try.f22, push_cast, ↓dstAt_zero, ↓dstAt_succ, ↓arun_skip, ↓arun_region, ↓arun_seq, ↓arun_cond, ↓arun_block, ↓arun_loop, ↓arun_exit, ↓arun_ret, aops_nil, aops_cons, aops_cons_guard, ↓putA_some, ↓putA_none, ↓aop_move, ↓aop_assign, ↓aop_pick, ↓aop_alloc, ↓aop_box, ↓aop_build, ↓aop_buildSlice, ↓aop_load, ↓aop_store, ↓aop_nilCheck, ↓aop_binOp, ↓aop_unOp, ↓aop_convert, ↓aop_makeSlice, ↓aop_fieldAddr, ↓aop_field, ↓aop_indexAddr, ↓aop_index, ↓aop_lookup, ↓aop_mapUpdate, ↓aop_insert, ↓aop_extract, ↓aop_callB, ↓aop_callF, ↓aop_callT, ↓aop_makeFunc, ↓aop_makeMap, ↓aop_slice, ↓aevs_nil, ↓aevs_cons, ↓evP_nil, ↓evP_cons, ↓aevO_none, ↓aevO_some, ↓reduceIte, reduceCtorEq, Nat.reduceEqDiff, Nat.reduceAdd, Nat.reduceLT, Nat.reduceSub, Nat.reduceMul, Nat.reduceLeDiff, if_true, if_false, if_pos, if_neg, v1, hH, rep2, hlen]
      try rfl
end Go.Proofs

/- Ints, Equal, Lists, few. -/
set_option linter.unusedVariables false
set_option linter.unusedSimpArgs false
set_option linter.unusedSectionVars false
namespace Go.Proofs
open Go.AI
set_option maxRecDepth 20000
section
variable {a : Code} (h : loopOf 0 Try.f20 = some a) {A C : List Int} (hA : A.length ≤ 1000000) (hC : C.length = A.length)
include h hA hC
def st20 (A C : List Int) (i : Nat) : St := ([(0, Is A), (1, Is C), (5, I i)], [])
theorem r20a {i : Nat} (hi : i < A.length) (hq : decide (A.getD i 0 = C.getD i 0) = true) : roundA Try.cfg 20 iter (call Try.cfg) 0 a (st20 A C i) = some (.normal, st20 A C (i + 1)) := by
  cases h
  have hx : A[i]? = some (A.getD i 0) := by simp [hi]
  have hy : C[i]? = some (C.getD i 0) := by simp [hi, hC]
  have he := of_decide_eq_true hq
  simp -implicitDefEqProofs (disch := omega) only [push_cast, ↓dstAt_zero, ↓dstAt_succ, ↓arun_skip, ↓arun_region, ↓arun_seq, ↓arun_cond, ↓arun_block, ↓arun_loop, ↓arun_exit, ↓arun_ret, aops_nil, aops_cons, aops_cons_guard, ↓putA_some, ↓putA_none, ↓aop_move, ↓aop_assign, ↓aop_pick, ↓aop_alloc, ↓aop_box, ↓aop_build, ↓aop_buildSlice, ↓aop_load, ↓aop_store, ↓aop_nilCheck, ↓aop_binOp, ↓aop_unOp, ↓aop_convert, ↓aop_makeSlice, ↓aop_fieldAddr, ↓aop_field, ↓aop_indexAddr, ↓aop_index, ↓aop_lookup, ↓aop_mapUpdate, ↓aop_insert, ↓aop_extract, ↓aop_callB, ↓aop_callF, ↓aop_callT, ↓aop_makeFunc, ↓aop_makeMap, ↓aop_slice, ↓aevs_nil, ↓aevs_cons, ↓evP_nil, ↓evP_cons, ↓aevO_none, ↓aevO_some, ↓reduceIte, reduceCtorEq, Nat.reduceEqDiff, Nat.reduceAdd, Nat.reduceLT, Nat.reduceSub, Nat.reduceMul, Nat.reduceLeDiff, if_true, if_false, if_pos, if_neg, st20, hx, hy]
  try rfl
theorem r20b {i : Nat} (hi : i < A.length) (hq : decide (A.getD i 0 = C.getD i 0) = false) : roundA Try.cfg 20 iter (call Try.cfg) 0 a (st20 A C i) = some (.ret, [(4, B false)], []) := by
  cases h
  have hx : A[i]? = some (A.getD i 0) := by simp [hi]
  have hy : C[i]? = some (C.getD i 0) := by simp [hi, hC]
  have he := of_decide_eq_false hq
  simp -implicitDefEqProofs (disch := omega) only [push_cast, ↓dstAt_zero, ↓dstAt_succ, ↓arun_skip, ↓arun_region, ↓arun_seq, ↓arun_cond, ↓arun_block, ↓arun_loop, ↓arun_exit, ↓arun_ret, aops_nil, aops_cons, aops_cons_guard, ↓putA_some, ↓putA_none, ↓aop_move, ↓aop_assign, ↓aop_pick, ↓aop_alloc, ↓aop_box, ↓aop_build, ↓aop_buildSlice, ↓aop_load, ↓aop_store, ↓aop_nilCheck, ↓aop_binOp, ↓aop_unOp, ↓aop_convert, ↓aop_makeSlice, ↓aop_fieldAddr, ↓aop_field, ↓aop_indexAddr, ↓aop_index, ↓aop_lookup, ↓aop_mapUpdate, ↓aop_insert, ↓aop_extract, ↓aop_callB, ↓aop_callF, ↓aop_callT, ↓aop_makeFunc, ↓aop_makeMap, ↓aop_slice, ↓aevs_nil, ↓aevs_cons, ↓evP_nil, ↓evP_cons, ↓aevO_none, ↓aevO_some, ↓reduceIte, reduceCtorEq, Nat.reduceEqDiff, Nat.reduceAdd, Nat.reduceLT, Nat.reduceSub, Nat.reduceMul, Nat.reduceLeDiff, if_true, if_false, if_pos, if_neg, st20, hx, hy]
theorem r20c : roundA Try.cfg 20 iter (call Try.cfg) 0 a (st20 A C A.length) = some (.exit 0, [], []) := by
  cases h
  simp -implicitDefEqProofs (disch := omega) only [push_cast, ↓dstAt_zero, ↓dstAt_succ, ↓arun_skip, ↓arun_region, ↓arun_seq, ↓arun_cond, ↓arun_block, ↓arun_loop, ↓arun_exit, ↓arun_ret, aops_nil, aops_cons, aops_cons_guard, ↓putA_some, ↓putA_none, ↓aop_move, ↓aop_assign, ↓aop_pick, ↓aop_alloc, ↓aop_box, ↓aop_build, ↓aop_buildSlice, ↓aop_load, ↓aop_store, ↓aop_nilCheck, ↓aop_binOp, ↓aop_unOp, ↓aop_convert, ↓aop_makeSlice, ↓aop_fieldAddr, ↓aop_field, ↓aop_indexAddr, ↓aop_index, ↓aop_lookup, ↓aop_mapUpdate, ↓aop_insert, ↓aop_extract, ↓aop_callB, ↓aop_callF, ↓aop_callT, ↓aop_makeFunc, ↓aop_makeMap, ↓aop_slice, ↓aevs_nil, ↓aevs_cons, ↓evP_nil, ↓evP_cons, ↓aevO_none, ↓aevO_some, ↓reduceIte, reduceCtorEq, Nat.reduceEqDiff, Nat.reduceAdd, Nat.reduceLT, Nat.reduceSub, Nat.reduceMul, Nat.reduceLeDiff, if_true, if_false, if_pos, if_neg, st20]
end
theorem call20 {A C : List Int} (hA : A.length ≤ 1000000) (hC : C.length ≤ 1000000) : call Try.cfg 20 [Is A, Is C] [] = some (B (decide (A = C)), []) := by
  refine call_step ?_
  by_cases hl : C.length = A.length
  · cases hlo : loopOf 0 Try.f20 with
    | none => cases hlo
    | some a =>
      have hH := iter_all (S := fun i => st20 A C i) (q := fun i => decide (A.getD i 0 = C.getD i 0)) (fun i hi hq => r20a hlo hA hl hi hq) (fun i hi hq => r20b hlo hA hl hi hq) (r20c hlo hA hl) (by simp) (by simp) A.length 0 (by omega)
      cases hlo
      rw [all_eq 0 hl.symm] at hH
      simp only [st20, Is, Int.natCast_zero] at hH
      cases hd : decide (A = C) with
      | true =>
        rw [hd, if_pos rfl] at hH
        simp -implicitDefEqProofs (disch := omega) only [stepA, bodyA, Try.cfgO, Try.sh20, Try.func20, Try.f20, push_cast, ↓dstAt_zero, ↓dstAt_succ, ↓arun_skip, ↓arun_region, ↓arun_seq, ↓arun_cond, ↓arun_block, ↓arun_loop, ↓arun_exit, ↓arun_ret, aops_nil, aops_cons, aops_cons_guard, ↓putA_some, ↓putA_none, ↓aop_move, ↓aop_assign, ↓aop_pick, ↓aop_alloc, ↓aop_box, ↓aop_build, ↓aop_buildSlice, ↓aop_load, ↓aop_store, ↓aop_nilCheck, ↓aop_binOp, ↓aop_unOp, ↓aop_convert, ↓aop_makeSlice, ↓aop_fieldAddr, ↓aop_field, ↓aop_indexAddr, ↓aop_index, ↓aop_lookup, ↓aop_mapUpdate, ↓aop_insert, ↓aop_extract, ↓aop_callB, ↓aop_callF, ↓aop_callT, ↓aop_makeFunc, ↓aop_makeMap, ↓aop_slice, ↓aevs_nil, ↓aevs_cons, ↓evP_nil, ↓evP_cons, ↓aevO_none, ↓aevO_some, ↓reduceIte, reduceCtorEq, Nat.reduceEqDiff, Nat.reduceAdd, Nat.reduceLT, Nat.reduceSub, Nat.reduceMul, Nat.reduceLeDiff, if_true, if_false, if_pos, if_neg, hH]
      | false =>
        rw [hd, if_neg (by simp)] at hH
        simp -implicitDefEqProofs (disch := omega) only [stepA, bodyA, Try.cfgO, Try.sh20, Try.func20, Try.f20, push_cast, ↓dstAt_zero, ↓dstAt_succ, ↓arun_skip, ↓arun_region, ↓arun_seq, ↓arun_cond, ↓arun_block, ↓arun_loop, ↓arun_exit, ↓arun_ret, aops_nil, aops_cons, aops_cons_guard, ↓putA_some, ↓putA_none, ↓aop_move, ↓aop_assign, ↓aop_pick, ↓aop_alloc, ↓aop_box, ↓aop_build, ↓aop_buildSlice, ↓aop_load, ↓aop_store, ↓aop_nilCheck, ↓aop_binOp, ↓aop_unOp, ↓aop_convert, ↓aop_makeSlice, ↓aop_fieldAddr, ↓aop_field, ↓aop_indexAddr, ↓aop_index, ↓aop_lookup, ↓aop_mapUpdate, ↓aop_insert, ↓aop_extract, ↓aop_callB, ↓aop_callF, ↓aop_callT, ↓aop_makeFunc, ↓aop_makeMap, ↓aop_slice, ↓aevs_nil, ↓aevs_cons, ↓evP_nil, ↓evP_cons, ↓aevO_none, ↓aevO_some, ↓reduceIte, reduceCtorEq, Nat.reduceEqDiff, Nat.reduceAdd, Nat.reduceLT, Nat.reduceSub, Nat.reduceMul, Nat.reduceLeDiff, if_true, if_false, if_pos, if_neg, hH]
  · have hd : decide (A = C) = false := decide_eq_false (fun e => hl (by rw [e]))
    rw [hd]
    simp -implicitDefEqProofs (disch := omega) only [stepA, bodyA, Try.cfgO, Try.sh20, Try.func20, Try.f20, push_cast, ↓dstAt_zero, ↓dstAt_succ, ↓arun_skip, ↓arun_region, ↓arun_seq, ↓arun_cond, ↓arun_block, ↓arun_loop, ↓arun_exit, ↓arun_ret, aops_nil, aops_cons, aops_cons_guard, ↓putA_some, ↓putA_none, ↓aop_move, ↓aop_assign, ↓aop_pick, ↓aop_alloc, ↓aop_box, ↓aop_build, ↓aop_buildSlice, ↓aop_load, ↓aop_store, ↓aop_nilCheck, ↓aop_binOp, ↓aop_unOp, ↓aop_convert, ↓aop_makeSlice, ↓aop_fieldAddr, ↓aop_field, ↓aop_indexAddr, ↓aop_index, ↓aop_lookup, ↓aop_mapUpdate, ↓aop_insert, ↓aop_extract, ↓aop_callB, ↓aop_callF, ↓aop_callT, ↓aop_makeFunc, ↓aop_makeMap, ↓aop_slice, ↓aevs_nil, ↓aevs_cons, ↓evP_nil, ↓evP_cons, ↓aevO_none, ↓aevO_some, ↓reduceIte, reduceCtorEq, Nat.reduceEqDiff, Nat.reduceAdd, Nat.reduceLT, Nat.reduceSub, Nat.reduceMul, Nat.reduceLeDiff, if_true, if_false, if_pos, if_neg, ]
section
variable {a : Code} (h : loopOf 0 Try.f37 = some a) {A C : List Int} (hA : A.length ≤ 1000000) (hC : C.length = A.length)
include h hA hC
def st37 (A C : List Int) (i : Nat) : St := ([(0, Is A), (1, Is C), (12, I A.length), (13, I i)], [])
theorem r37a {i : Nat} (hi : i < A.length) (hq : decide (A.getD i 0 = C.getD i 0) = true) : roundA Try.cfg 37 iter (call Try.cfg) 0 a (st37 A C i) = some (.normal, st37 A C (i + 1)) := by
  cases h
  have hx : A[i]? = some (A.getD i 0) := by simp [hi]
  have hy : C[i]? = some (C.getD i 0) := by simp [hi, hC]
  have he := of_decide_eq_true hq
  simp -implicitDefEqProofs (disch := omega) only [push_cast, ↓dstAt_zero, ↓dstAt_succ, ↓arun_skip, ↓arun_region, ↓arun_seq, ↓arun_cond, ↓arun_block, ↓arun_loop, ↓arun_exit, ↓arun_ret, aops_nil, aops_cons, aops_cons_guard, ↓putA_some, ↓putA_none, ↓aop_move, ↓aop_assign, ↓aop_pick, ↓aop_alloc, ↓aop_box, ↓aop_build, ↓aop_buildSlice, ↓aop_load, ↓aop_store, ↓aop_nilCheck, ↓aop_binOp, ↓aop_unOp, ↓aop_convert, ↓aop_makeSlice, ↓aop_fieldAddr, ↓aop_field, ↓aop_indexAddr, ↓aop_index, ↓aop_lookup, ↓aop_mapUpdate, ↓aop_insert, ↓aop_extract, ↓aop_callB, ↓aop_callF, ↓aop_callT, ↓aop_makeFunc, ↓aop_makeMap, ↓aop_slice, ↓aevs_nil, ↓aevs_cons, ↓evP_nil, ↓evP_cons, ↓aevO_none, ↓aevO_some, ↓reduceIte, reduceCtorEq, Nat.reduceEqDiff, Nat.reduceAdd, Nat.reduceLT, Nat.reduceSub, Nat.reduceMul, Nat.reduceLeDiff, if_true, if_false, if_pos, if_neg, st37, hx, hy]
  try rfl
theorem r37b {i : Nat} (hi : i < A.length) (hq : decide (A.getD i 0 = C.getD i 0) = false) : roundA Try.cfg 37 iter (call Try.cfg) 0 a (st37 A C i) = some (.ret, [(4, B false)], []) := by
  cases h
  have hx : A[i]? = some (A.getD i 0) := by simp [hi]
  have hy : C[i]? = some (C.getD i 0) := by simp [hi, hC]
  have he := of_decide_eq_false hq
  simp -implicitDefEqProofs (disch := omega) only [push_cast, ↓dstAt_zero, ↓dstAt_succ, ↓arun_skip, ↓arun_region, ↓arun_seq, ↓arun_cond, ↓arun_block, ↓arun_loop, ↓arun_exit, ↓arun_ret, aops_nil, aops_cons, aops_cons_guard, ↓putA_some, ↓putA_none, ↓aop_move, ↓aop_assign, ↓aop_pick, ↓aop_alloc, ↓aop_box, ↓aop_build, ↓aop_buildSlice, ↓aop_load, ↓aop_store, ↓aop_nilCheck, ↓aop_binOp, ↓aop_unOp, ↓aop_convert, ↓aop_makeSlice, ↓aop_fieldAddr, ↓aop_field, ↓aop_indexAddr, ↓aop_index, ↓aop_lookup, ↓aop_mapUpdate, ↓aop_insert, ↓aop_extract, ↓aop_callB, ↓aop_callF, ↓aop_callT, ↓aop_makeFunc, ↓aop_makeMap, ↓aop_slice, ↓aevs_nil, ↓aevs_cons, ↓evP_nil, ↓evP_cons, ↓aevO_none, ↓aevO_some, ↓reduceIte, reduceCtorEq, Nat.reduceEqDiff, Nat.reduceAdd, Nat.reduceLT, Nat.reduceSub, Nat.reduceMul, Nat.reduceLeDiff, if_true, if_false, if_pos, if_neg, st37, hx, hy]
theorem r37c : roundA Try.cfg 37 iter (call Try.cfg) 0 a (st37 A C A.length) = some (.exit 0, [], []) := by
  cases h
  simp -implicitDefEqProofs (disch := omega) only [push_cast, ↓dstAt_zero, ↓dstAt_succ, ↓arun_skip, ↓arun_region, ↓arun_seq, ↓arun_cond, ↓arun_block, ↓arun_loop, ↓arun_exit, ↓arun_ret, aops_nil, aops_cons, aops_cons_guard, ↓putA_some, ↓putA_none, ↓aop_move, ↓aop_assign, ↓aop_pick, ↓aop_alloc, ↓aop_box, ↓aop_build, ↓aop_buildSlice, ↓aop_load, ↓aop_store, ↓aop_nilCheck, ↓aop_binOp, ↓aop_unOp, ↓aop_convert, ↓aop_makeSlice, ↓aop_fieldAddr, ↓aop_field, ↓aop_indexAddr, ↓aop_index, ↓aop_lookup, ↓aop_mapUpdate, ↓aop_insert, ↓aop_extract, ↓aop_callB, ↓aop_callF, ↓aop_callT, ↓aop_makeFunc, ↓aop_makeMap, ↓aop_slice, ↓aevs_nil, ↓aevs_cons, ↓evP_nil, ↓evP_cons, ↓aevO_none, ↓aevO_some, ↓reduceIte, reduceCtorEq, Nat.reduceEqDiff, Nat.reduceAdd, Nat.reduceLT, Nat.reduceSub, Nat.reduceMul, Nat.reduceLeDiff, if_true, if_false, if_pos, if_neg, st37]
end
theorem call37 {A C : List Int} (hA : A.length ≤ 1000000) (hC : C.length ≤ 1000000) : call Try.cfg 37 [Is A, Is C] [] = some (B (decide (A = C)), []) := by
  refine call_step ?_
  by_cases hl : C.length = A.length
  · cases hlo : loopOf 0 Try.f37 with
    | none => cases hlo
    | some a =>
      have hH := iter_all (S := fun i => st37 A C i) (q := fun i => decide (A.getD i 0 = C.getD i 0)) (fun i hi hq => r37a hlo hA hl hi hq) (fun i hi hq => r37b hlo hA hl hi hq) (r37c hlo hA hl) (by simp) (by simp) A.length 0 (by omega)
      cases hlo
      rw [all_eq 0 hl.symm] at hH
      simp only [st37, Is, Int.natCast_zero] at hH
      cases hd : decide (A = C) with
      | true =>
        rw [hd, if_pos rfl] at hH
        simp -implicitDefEqProofs (disch := omega) only [stepA, bodyA, Try.cfgO, Try.sh37, Try.func37, Try.f37, push_cast, ↓dstAt_zero, ↓dstAt_succ, ↓arun_skip, ↓arun_region, ↓arun_seq, ↓arun_cond, ↓arun_block, ↓arun_loop, ↓arun_exit, ↓arun_ret, aops_nil, aops_cons, aops_cons_guard, ↓putA_some, ↓putA_none, ↓aop_move, ↓aop_assign, ↓aop_pick, ↓aop_alloc, ↓aop_box, ↓aop_build, ↓aop_buildSlice, ↓aop_load, ↓aop_store, ↓aop_nilCheck, ↓aop_binOp, ↓aop_unOp, ↓aop_convert, ↓aop_makeSlice, ↓aop_fieldAddr, ↓aop_field, ↓aop_indexAddr, ↓aop_index, ↓aop_lookup, ↓aop_mapUpdate, ↓aop_insert, ↓aop_extract, ↓aop_callB, ↓aop_callF, ↓aop_callT, ↓aop_makeFunc, ↓aop_makeMap, ↓aop_slice, ↓aevs_nil, ↓aevs_cons, ↓evP_nil, ↓evP_cons, ↓aevO_none, ↓aevO_some, ↓reduceIte, reduceCtorEq, Nat.reduceEqDiff, Nat.reduceAdd, Nat.reduceLT, Nat.reduceSub, Nat.reduceMul, Nat.reduceLeDiff, if_true, if_false, if_pos, if_neg, hH]
      | false =>
        rw [hd, if_neg (by simp)] at hH
        simp -implicitDefEqProofs (disch := omega) only [stepA, bodyA, Try.cfgO, Try.sh37, Try.func37, Try.f37, push_cast, ↓dstAt_zero, ↓dstAt_succ, ↓arun_skip, ↓arun_region, ↓arun_seq, ↓arun_cond, ↓arun_block, ↓arun_loop, ↓arun_exit, ↓arun_ret, aops_nil, aops_cons, aops_cons_guard, ↓putA_some, ↓putA_none, ↓aop_move, ↓aop_assign, ↓aop_pick, ↓aop_alloc, ↓aop_box, ↓aop_build, ↓aop_buildSlice, ↓aop_load, ↓aop_store, ↓aop_nilCheck, ↓aop_binOp, ↓aop_unOp, ↓aop_convert, ↓aop_makeSlice, ↓aop_fieldAddr, ↓aop_field, ↓aop_indexAddr, ↓aop_index, ↓aop_lookup, ↓aop_mapUpdate, ↓aop_insert, ↓aop_extract, ↓aop_callB, ↓aop_callF, ↓aop_callT, ↓aop_makeFunc, ↓aop_makeMap, ↓aop_slice, ↓aevs_nil, ↓aevs_cons, ↓evP_nil, ↓evP_cons, ↓aevO_none, ↓aevO_some, ↓reduceIte, reduceCtorEq, Nat.reduceEqDiff, Nat.reduceAdd, Nat.reduceLT, Nat.reduceSub, Nat.reduceMul, Nat.reduceLeDiff, if_true, if_false, if_pos, if_neg, hH]
  · have hd : decide (A = C) = false := decide_eq_false (fun e => hl (by rw [e]))
    rw [hd]
    simp -implicitDefEqProofs (disch := omega) only [stepA, bodyA, Try.cfgO, Try.sh37, Try.func37, Try.f37, push_cast, ↓dstAt_zero, ↓dstAt_succ, ↓arun_skip, ↓arun_region, ↓arun_seq, ↓arun_cond, ↓arun_block, ↓arun_loop, ↓arun_exit, ↓arun_ret, aops_nil, aops_cons, aops_cons_guard, ↓putA_some, ↓putA_none, ↓aop_move, ↓aop_assign, ↓aop_pick, ↓aop_alloc, ↓aop_box, ↓aop_build, ↓aop_buildSlice, ↓aop_load, ↓aop_store, ↓aop_nilCheck, ↓aop_binOp, ↓aop_unOp, ↓aop_convert, ↓aop_makeSlice, ↓aop_fieldAddr, ↓aop_field, ↓aop_indexAddr, ↓aop_index, ↓aop_lookup, ↓aop_mapUpdate, ↓aop_insert, ↓aop_extract, ↓aop_callB, ↓aop_callF, ↓aop_callT, ↓aop_makeFunc, ↓aop_makeMap, ↓aop_slice, ↓aevs_nil, ↓aevs_cons, ↓evP_nil, ↓evP_cons, ↓aevO_none, ↓aevO_some, ↓reduceIte, reduceCtorEq, Nat.reduceEqDiff, Nat.reduceAdd, Nat.reduceLT, Nat.reduceSub, Nat.reduceMul, Nat.reduceLeDiff, if_true, if_false, if_pos, if_neg, ]
end Go.Proofs

/- Plain laws of permutations of at most six places. -/
set_option linter.unusedVariables false
namespace Go.Proofs
open Go.AI
def enumL (n : Nat) : Nat → List Bool → List (List Int)
  | 0, _ => [[]]
  | k + 1, bs => (List.range n).flatMap fun x => if bs.getD x false then [] else (enumL n k (bs.set x true)).map fun l => (x : Int) :: l
theorem mem_enum (n : Nat) : ∀ (l : List Int) (bs : List Bool), seenL n l bs = true → l ∈ enumL n l.length bs
  | [], bs, _ => by simp [enumL]
  | x :: r, bs, h => by
    simp only [seenL] at h
    split at h
    · cases h
    · rename_i h1
      split at h
      · cases h
      · rename_i h2
        split at h
        · cases h
        · rename_i h3
          simp only [List.length_cons, enumL, List.mem_flatMap, List.mem_range]
          refine ⟨x.toNat, by omega, ?_⟩
          rw [if_neg h3]
          have e : ((x.toNat : Nat) : Int) = x := by omega
          rw [e]
          exact List.mem_map_of_mem (mem_enum n r _ h)
def six : List Bool := [false, false, false, false, false, false]
/-- What holds of all of them holds of each. -/
theorem valid_all {q : List Int → Bool} (h : ((List.range 7).all fun n => (enumL n n six).all q) = true) {A : List Int} (hv : validL A = true) : q A = true := by
  have h6 := valid_len hv
  simp only [validL, Bool.and_eq_true, decide_eq_true_eq] at hv
  have hm := mem_enum A.length A _ hv.2
  have h1 := List.all_eq_true.1 h A.length (by simp; omega)
  exact List.all_eq_true.1 h1 A hm
def powP (A : List Int) : Nat → List Int
  | 0 => A
  | j + 1 => mulP A (powP A j)
def ordOk (A : List Int) : Bool := (List.range 6).any fun j => decide (powP A j = idP A.length)
theorem ord_all : ((List.range 7).all fun n => (enumL n n six).all ordOk) = true := by kernel_rfl
end Go.Proofs

/- Order, ref.Order. -/
set_option linter.unusedVariables false
set_option linter.unusedSimpArgs false
set_option linter.unusedSectionVars false
namespace Go.Proofs
open Go.AI
set_option maxRecDepth 20000
theorem powP_length (A : List Int) : ∀ j, (powP A j).length = A.length
  | 0 => rfl
  | j + 1 => mulP_length A _
theorem powP_range {A : List Int} (hv : validL A = true) : ∀ j i, i < A.length → 0 ≤ (powP A j).getD i 0 ∧ (powP A j).getD i 0 < A.length
  | 0, i, hi => valid_range hv hi
  | j + 1, i, hi => by
    have h := powP_range hv j i hi
    have e : (mulP A (powP A j)).getD i 0 = A.getD ((powP A j).getD i 0).toNat 0 := by simp [mulP, hi]
    rw [powP, e]
    exact valid_range hv (by omega)
theorem idP_length (n : Nat) : (idP n).length = n := by simp [idP]
def ordF (A : List Int) : Nat → Nat → Nat
  | 0, j => j
  | k + 1, j => if powP A j = idP A.length then j else ordF A k (j + 1)
def ordL (A : List Int) : Int × Int := if validL A then (((ordF A 6 0 + 1 : Nat) : Int), 0) else (0, 1)
theorem call37u {A C : List Int} (hA : A.length ≤ 1000000) (hC : C.length ≤ 1000000) : call Try.cfg 37 [.sl false A.length (A.map I), .sl false C.length (C.map I)] [] = some (.v (.bool (decide (A = C))), []) := call37 hA hC
theorem call31u {n : Nat} (hn : n ≤ 1000) : call Try.cfg 31 [.v (.int .i64 n)] [] = some (.sl false n ((idP n).map I), []) := call31 hn
theorem call38u {n : Nat} (hn : n ≤ 1000) : call Try.cfg 38 [.v (.int .i64 n)] [] = some (.sl false n ((idP n).map I), []) := call38 hn
section
variable {a : Code} (h : loopOf 0 Try.f19 = some a) {A : List Int} (hv : validL A = true)
include h hv
def st19 (A : List Int) (j : Nat) : St := ([(0, Is A), (4, Is (idP A.length)), (5, I ((j : Int) + 1)), (6, Is (powP A j))], [])
theorem r19a {j : Nat} (hj : j ≤ 6) (hne : decide (powP A j = idP A.length) = false) : roundA Try.cfg 19 iter (call Try.cfg) 0 a (st19 A j) = some (.normal, st19 A (j + 1)) := by
  cases h
  have h6 := valid_len hv
  have hl := powP_length A j
  have hi := idP_length A.length
  have h37 := call37u (A := powP A j) (C := idP A.length) (by omega) (by omega)
  rw [hne] at h37
  have h33 := call33u (A := A) (C := powP A j) h6 hl (powP_range hv j)
  have hm := mulP_length A (powP A j)
  have hs : st19 A (j + 1) = ([(0, Is A), (4, Is (idP A.length)), (5, I (((j + 1 : Nat) : Int) + 1)), (6, Is (mulP A (powP A j)))], []) := rfl
  rw [hs]
  simp -implicitDefEqProofs (maxSteps := 1000000) (disch := omega) only [push_cast, ↓dstAt_zero, ↓dstAt_succ, ↓arun_skip, ↓arun_region, ↓arun_seq, ↓arun_cond, ↓arun_block, ↓arun_loop, ↓arun_exit, ↓arun_ret, aops_nil, aops_cons, aops_cons_guard, ↓putA_some, ↓putA_none, ↓aop_move, ↓aop_assign, ↓aop_pick, ↓aop_alloc, ↓aop_box, ↓aop_build, ↓aop_buildSlice, ↓aop_load, ↓aop_store, ↓aop_nilCheck, ↓aop_binOp, ↓aop_unOp, ↓aop_convert, ↓aop_makeSlice, ↓aop_fieldAddr, ↓aop_field, ↓aop_indexAddr, ↓aop_index, ↓aop_lookup, ↓aop_mapUpdate, ↓aop_insert, ↓aop_extract, ↓aop_callB, ↓aop_callF, ↓aop_callT, ↓aop_makeFunc, ↓aop_makeMap, ↓aop_slice, ↓aevs_nil, ↓aevs_cons, ↓evP_nil, ↓evP_cons, ↓aevO_none, ↓aevO_some, ↓reduceIte, reduceCtorEq, Nat.reduceEqDiff, Nat.reduceAdd, Nat.reduceLT, Nat.reduceSub, Nat.reduceMul, Nat.reduceLeDiff, if_true, if_false, if_pos, if_neg, Try.sh37, Try.sh33, st19, h37, h33, hm]
  try rfl
theorem r19b {j : Nat} (hj : j ≤ 6) (hne : decide (powP A j = idP A.length) = true) : roundA Try.cfg 19 iter (call Try.cfg) 0 a (st19 A j) = some (.exit 0, [(5, I ((j : Int) + 1))], []) := by
  cases h
  have h6 := valid_len hv
  have hl := powP_length A j
  have hi := idP_length A.length
  have h37 := call37u (A := powP A j) (C := idP A.length) (by omega) (by omega)
  rw [hne] at h37
  simp -implicitDefEqProofs (maxSteps := 1000000) (disch := omega) only [push_cast, ↓dstAt_zero, ↓dstAt_succ, ↓arun_skip, ↓arun_region, ↓arun_seq, ↓arun_cond, ↓arun_block, ↓arun_loop, ↓arun_exit, ↓arun_ret, aops_nil, aops_cons, aops_cons_guard, ↓putA_some, ↓putA_none, ↓aop_move, ↓aop_assign, ↓aop_pick, ↓aop_alloc, ↓aop_box, ↓aop_build, ↓aop_buildSlice, ↓aop_load, ↓aop_store, ↓aop_nilCheck, ↓aop_binOp, ↓aop_unOp, ↓aop_convert, ↓aop_makeSlice, ↓aop_fieldAddr, ↓aop_field, ↓aop_indexAddr, ↓aop_index, ↓aop_lookup, ↓aop_mapUpdate, ↓aop_insert, ↓aop_extract, ↓aop_callB, ↓aop_callF, ↓aop_callT, ↓aop_makeFunc, ↓aop_makeMap, ↓aop_slice, ↓aevs_nil, ↓aevs_cons, ↓evP_nil, ↓evP_cons, ↓aevO_none, ↓aevO_some, ↓reduceIte, reduceCtorEq, Nat.reduceEqDiff, Nat.reduceAdd, Nat.reduceLT, Nat.reduceSub, Nat.reduceMul, Nat.reduceLeDiff, if_true, if_false, if_pos, if_neg, Try.sh37, Try.sh33, st19, h37]
theorem l19 : ∀ k j, j + k = 6 → (∃ m, j ≤ m ∧ m < 6 ∧ powP A m = idP A.length) → iter (roundA Try.cfg 19 iter (call Try.cfg) 0 a) (st19 A j) = some (.exit 0, [(5, I ((ordF A k j : Int) + 1))], [])
  | 0, j, hj, ⟨m, h1, h2, h3⟩ => by omega
  | k + 1, j, hj, ⟨m, h1, h2, h3⟩ => by
    by_cases he : powP A j = idP A.length
    · rw [ordF, if_pos he]
      exact iter_last (r19b h hv (by omega) (decide_eq_true he)) (by simp)
    · rw [ordF, if_neg he]
      have : j ≠ m := fun e => he (by rw [e]; exact h3)
      exact iter_normal (r19a h hv (by omega) (decide_eq_false he)) (l19 k (j + 1) (by omega) ⟨m, by omega, h2, h3⟩)
end
theorem call19 {A : List Int} (hA : A.length ≤ 1000) : call Try.cfg 19 [Is A] [] = some (.tu [I (ordL A).1, I (ordL A).2], []) := by
  refine call_step ?_
  have v1 := call23u hA
  cases hv : validL A with
  | false =>
    rw [hv] at v1
    have e : ordL A = (0, 1) := by simp [ordL, hv]
    rw [e]
    simp -implicitDefEqProofs (maxSteps := 1000000) (disch := omega) only [stepA, bodyA, Try.cfgO, Try.sh19, Try.sh23, Try.func19, Try.f19, push_cast, ↓dstAt_zero, ↓dstAt_succ, ↓arun_skip, ↓arun_region, ↓arun_seq, ↓arun_cond, ↓arun_block, ↓arun_loop, ↓arun_exit, ↓arun_ret, aops_nil, aops_cons, aops_cons_guard, ↓putA_some, ↓putA_none, ↓aop_move, ↓aop_assign, ↓aop_pick, ↓aop_alloc, ↓aop_box, ↓aop_build, ↓aop_buildSlice, ↓aop_load, ↓aop_store, ↓aop_nilCheck, ↓aop_binOp, ↓aop_unOp, ↓aop_convert, ↓aop_makeSlice, ↓aop_fieldAddr, ↓aop_field, ↓aop_indexAddr, ↓aop_index, ↓aop_lookup, ↓aop_mapUpdate, ↓aop_insert, ↓aop_extract, ↓aop_callB, ↓aop_callF, ↓aop_callT, ↓aop_makeFunc, ↓aop_makeMap, ↓aop_slice, ↓aevs_nil, ↓aevs_cons, ↓evP_nil, ↓evP_cons, ↓aevO_none, ↓aevO_some, ↓reduceIte, reduceCtorEq, Nat.reduceEqDiff, Nat.reduceAdd, Nat.reduceLT, Nat.reduceSub, Nat.reduceMul, Nat.reduceLeDiff, if_true, if_false, if_pos, if_neg, v1]
    try rfl
  | true =>
    rw [hv] at v1
    have h6 := valid_len hv
    have e : ordL A = ((ordF A 6 0 : Int) + 1, 0) := by simp [ordL, hv]
    rw [e]
    have hu := call31u (n := A.length) (by omega)
    have hi := idP_length A.length
    cases hl : loopOf 0 Try.f19 with
    | none => cases hl
    | some a =>
      have hH := l19 hl hv 6 0 rfl (by
        have := valid_all ord_all hv
        simp only [ordOk, List.any_eq_true, List.mem_range, decide_eq_true_eq] at this
        obtain ⟨m, h1, h2⟩ := this
        exact ⟨m, by omega, h1, h2⟩)
      cases hl
      have e0 : powP A 0 = A := rfl
      simp only [st19, Is, Int.natCast_zero, e0, hi, Int.zero_add] at hH
      simp -implicitDefEqProofs (maxSteps := 1000000) (disch := omega) only [stepA, bodyA, Try.cfgO, Try.sh19, Try.sh23, Try.sh31, Try.func19, Try.f19, push_cast, ↓dstAt_zero, ↓dstAt_succ, ↓arun_skip, ↓arun_region, ↓arun_seq, ↓arun_cond, ↓arun_block, ↓arun_loop, ↓arun_exit, ↓arun_ret, aops_nil, aops_cons, aops_cons_guard, ↓putA_some, ↓putA_none, ↓aop_move, ↓aop_assign, ↓aop_pick, ↓aop_alloc, ↓aop_box, ↓aop_build, ↓aop_buildSlice, ↓aop_load, ↓aop_store, ↓aop_nilCheck, ↓aop_binOp, ↓aop_unOp, ↓aop_convert, ↓aop_makeSlice, ↓aop_fieldAddr, ↓aop_field, ↓aop_indexAddr, ↓aop_index, ↓aop_lookup, ↓aop_mapUpdate, ↓aop_insert, ↓aop_extract, ↓aop_callB, ↓aop_callF, ↓aop_callT, ↓aop_makeFunc, ↓aop_makeMap, ↓aop_slice, ↓aevs_nil, ↓aevs_cons, ↓evP_nil, ↓evP_cons, ↓aevO_none, ↓aevO_some, ↓reduceIte, reduceCtorEq, Nat.reduceEqDiff, Nat.reduceAdd, Nat.reduceLT, Nat.reduceSub, Nat.reduceMul, Nat.reduceLeDiff, if_true, if_false, if_pos, if_neg, v1, hu, hH]
      try rfl
end Go.Proofs

/- group.IsGroup. -/
set_option linter.unusedVariables false
set_option linter.unusedSimpArgs false
set_option linter.unusedSectionVars false
namespace Go.Proofs
open Go.AI
set_option maxRecDepth 20000
set_option maxHeartbeats 2000000
def gt (L : List (List Int)) (i : Nat) : List Int := L.getD i []
def okG (L : List (List Int)) (i : Nat) : Bool := validL (gt L i) && decide ((gt L i).length = (gt L 0).length) && (decide (i = 0) || decide (lexC (gt L (i - 1)) (gt L i) < 0))
def allG (L : List (List Int)) (i : Nat) : Bool := (List.range' 0 L.length).all fun k => decide (mulP (gt L i) (gt L k) ∈ L)
def isG (L : List (List Int)) : Bool := (List.range' 0 L.length).all (okG L) && !decide (L = []) && decide (gt L 0 = idP (gt L 0).length) && (List.range' 0 L.length).all (allG L)
/-- The keys that are known behind i rounds. -/
def kn (L : List (List Int)) : Nat → List (List Int)
  | 0 => []
  | i + 1 => addK (kn L i) (gt L i)
theorem mem_kn {L : List (List Int)} {x : List Int} : ∀ i, x ∈ kn L i ↔ ∃ j, j < i ∧ x = gt L j
  | 0 => by simp [kn]
  | i + 1 => by
    rw [kn, mem_addK, mem_kn i]
    constructor
    · rintro (⟨j, h1, h2⟩ | h)
      · exact ⟨j, by omega, h2⟩
      · exact ⟨i, by omega, h⟩
    · rintro ⟨j, h1, h2⟩
      by_cases e : j = i
      · right; rw [← e]; exact h2
      · left; exact ⟨j, by omega, h2⟩
theorem gt_some {L : List (List Int)} {i : Nat} (h : i < L.length) : L[i]? = some (gt L i) := by simp [gt, h]
theorem mem_kn_all {L : List (List Int)} {x : List Int} : x ∈ kn L L.length ↔ x ∈ L := by
  rw [mem_kn]
  constructor
  · rintro ⟨j, h1, rfl⟩
    exact List.mem_of_getElem? (gt_some h1)
  · intro h
    obtain ⟨j, hj⟩ := List.mem_iff_getElem?.1 h
    have := lt_of_get hj
    rw [gt_some this] at hj
    cases hj
    exact ⟨j, this, rfl⟩
theorem call35u {A C : List Int} (hA : A.length ≤ 1000000) (hC : C.length ≤ 1000000) : call Try.cfg 35 [.sl false A.length (A.map I), .sl false C.length (C.map I)] [] = some (.v (.int .i64 (lexC A C)), []) := call35 hA hC
section
variable {a : Code} (h : loopOf 0 Try.f11 = some a) {L : List (List Int)} (hL : L.length ≤ 1000) (hs : ∀ x ∈ L, x.length ≤ 1000)
include h hL hs
def s11 (L ks : List (List Int)) (i : Nat) : St := ([(0, Iss L), (3, .mm 0), (11, Iss L), (12, I L.length), (13, I i)], [.map (ks.map mk6)])
theorem gt_len {i : Nat} (hi : i < L.length) : (gt L i).length ≤ 1000 := hs _ (List.mem_of_getElem? (gt_some hi))
theorem r11f {ks : List (List Int)} {i : Nat} (hi : i < L.length) (hok : okG L i = false) : roundA Try.cfg 11 iter (call Try.cfg) 0 a (s11 L ks i) = some (.ret, [(2, .v (.bool false))], [.map (ks.map mk6)]) := by
  have hx := gt_some hi
  have h0 := gt_some (L := L) (i := 0) (by omega)
  have l1 := gt_len h hL hs hi
  have l0 := gt_len h hL hs (i := 0) (by omega)
  have v1 := call23u l1
  cases h
  cases hv : validL (gt L i) with
  | false =>
    rw [hv] at v1
    generalize gt L i = x at *
    simp -implicitDefEqProofs (maxSteps := 1000000) (disch := omega) only [push_cast, ↓dstAt_zero, ↓dstAt_succ, ↓arun_skip, ↓arun_region, ↓arun_seq, ↓arun_cond, ↓arun_block, ↓arun_loop, ↓arun_exit, ↓arun_ret, aops_nil, aops_cons, aops_cons_guard, ↓putA_some, ↓putA_none, ↓aop_move, ↓aop_assign, ↓aop_pick, ↓aop_alloc, ↓aop_box, ↓aop_build, ↓aop_buildSlice, ↓aop_load, ↓aop_store, ↓aop_nilCheck, ↓aop_binOp, ↓aop_unOp, ↓aop_convert, ↓aop_makeSlice, ↓aop_fieldAddr, ↓aop_field, ↓aop_indexAddr, ↓aop_index, ↓aop_lookup, ↓aop_mapUpdate, ↓aop_insert, ↓aop_extract, ↓aop_callB, ↓aop_callF, ↓aop_callT, ↓aop_makeFunc, ↓aop_makeMap, ↓aop_slice, ↓aevs_nil, ↓aevs_cons, ↓evP_nil, ↓evP_cons, ↓aevO_none, ↓aevO_some, ↓reduceIte, reduceCtorEq, Nat.reduceEqDiff, Nat.reduceAdd, Nat.reduceLT, Nat.reduceSub, Nat.reduceMul, Nat.reduceLeDiff, if_true, if_false, if_pos, if_neg, s11, Iss, hx, v1]
  | true =>
    rw [hv] at v1
    by_cases hl : (gt L i).length = (gt L 0).length
    · have hi0 : i ≠ 0 := by
        rintro rfl
        simp [okG, hv] at hok
      obtain ⟨j, rfl⟩ : ∃ j, i = j + 1 := ⟨i - 1, by omega⟩
      have hlex : ¬ lexC (gt L j) (gt L (j + 1)) < 0 := by
        intro hlt
        simp [okG, hv, hlt] at hok
        exact hok hl
      have hp := gt_some (L := L) (i := j) (by omega)
      have lp := gt_len (a := _) rfl hL hs (i := j) (by omega)
      have h35 := call35u (A := gt L j) (C := gt L (j + 1)) (by omega) (by omega)
      generalize gt L (j + 1) = x at *
      generalize gt L j = p at *
      generalize gt L 0 = y at *
      generalize lexC p x = z at *
      simp -implicitDefEqProofs (maxSteps := 1000000) (disch := omega) only [push_cast, ↓dstAt_zero, ↓dstAt_succ, ↓arun_skip, ↓arun_region, ↓arun_seq, ↓arun_cond, ↓arun_block, ↓arun_loop, ↓arun_exit, ↓arun_ret, aops_nil, aops_cons, aops_cons_guard, ↓putA_some, ↓putA_none, ↓aop_move, ↓aop_assign, ↓aop_pick, ↓aop_alloc, ↓aop_box, ↓aop_build, ↓aop_buildSlice, ↓aop_load, ↓aop_store, ↓aop_nilCheck, ↓aop_binOp, ↓aop_unOp, ↓aop_convert, ↓aop_makeSlice, ↓aop_fieldAddr, ↓aop_field, ↓aop_indexAddr, ↓aop_index, ↓aop_lookup, ↓aop_mapUpdate, ↓aop_insert, ↓aop_extract, ↓aop_callB, ↓aop_callF, ↓aop_callT, ↓aop_makeFunc, ↓aop_makeMap, ↓aop_slice, ↓aevs_nil, ↓aevs_cons, ↓evP_nil, ↓evP_cons, ↓aevO_none, ↓aevO_some, ↓reduceIte, reduceCtorEq, Nat.reduceEqDiff, Nat.reduceAdd, Nat.reduceLT, Nat.reduceSub, Nat.reduceMul, Nat.reduceLeDiff, if_true, if_false, if_pos, if_neg, s11, Iss, hx, h0, hp, v1, h35, tn1, Int.add_sub_cancel]
    · generalize gt L i = x at *
      generalize gt L 0 = y at *
      simp -implicitDefEqProofs (maxSteps := 1000000) (disch := omega) only [push_cast, ↓dstAt_zero, ↓dstAt_succ, ↓arun_skip, ↓arun_region, ↓arun_seq, ↓arun_cond, ↓arun_block, ↓arun_loop, ↓arun_exit, ↓arun_ret, aops_nil, aops_cons, aops_cons_guard, ↓putA_some, ↓putA_none, ↓aop_move, ↓aop_assign, ↓aop_pick, ↓aop_alloc, ↓aop_box, ↓aop_build, ↓aop_buildSlice, ↓aop_load, ↓aop_store, ↓aop_nilCheck, ↓aop_binOp, ↓aop_unOp, ↓aop_convert, ↓aop_makeSlice, ↓aop_fieldAddr, ↓aop_field, ↓aop_indexAddr, ↓aop_index, ↓aop_lookup, ↓aop_mapUpdate, ↓aop_insert, ↓aop_extract, ↓aop_callB, ↓aop_callF, ↓aop_callT, ↓aop_makeFunc, ↓aop_makeMap, ↓aop_slice, ↓aevs_nil, ↓aevs_cons, ↓evP_nil, ↓evP_cons, ↓aevO_none, ↓aevO_some, ↓reduceIte, reduceCtorEq, Nat.reduceEqDiff, Nat.reduceAdd, Nat.reduceLT, Nat.reduceSub, Nat.reduceMul, Nat.reduceLeDiff, if_true, if_false, if_pos, if_neg, s11, Iss, hx, h0, v1]
theorem r11t {i : Nat} (hi : i < L.length) (hok : okG L i = true) (hks : ∀ K ∈ kn L i, K.length = (gt L i).length) : roundA Try.cfg 11 iter (call Try.cfg) 0 a (s11 L (kn L i) i) = some (.normal, s11 L (kn L (i + 1)) (i + 1)) := by
  have hx := gt_some hi
  have h0 := gt_some (L := L) (i := 0) (by omega)
  have l1 := gt_len h hL hs hi
  have v1 := call23u l1
  simp only [okG, Bool.and_eq_true, Bool.or_eq_true, decide_eq_true_eq] at hok
  obtain ⟨⟨hv, hl⟩, hlt⟩ := hok
  rw [hv] at v1
  have h6 := valid_len hv
  have h32 := call32 h6
  have hu := updA_key h6 hks
  have ho := keyOk_key h6
  rw [kn]
  generalize kn L i = ks at *
  generalize addK ks (gt L i) = ks' at *
  have hm : ∀ ks : List (List Int), (ks.map mk6).length = ks.length := fun ks => List.length_map ..
  cases h
  cases i with
  | zero =>
    generalize gt L 0 = x at *
    simp -implicitDefEqProofs (maxSteps := 1000000) (disch := omega) only [push_cast, ↓dstAt_zero, ↓dstAt_succ, ↓arun_skip, ↓arun_region, ↓arun_seq, ↓arun_cond, ↓arun_block, ↓arun_loop, ↓arun_exit, ↓arun_ret, aops_nil, aops_cons, aops_cons_guard, ↓putA_some, ↓putA_none, ↓aop_move, ↓aop_assign, ↓aop_pick, ↓aop_alloc, ↓aop_box, ↓aop_build, ↓aop_buildSlice, ↓aop_load, ↓aop_store, ↓aop_nilCheck, ↓aop_binOp, ↓aop_unOp, ↓aop_convert, ↓aop_makeSlice, ↓aop_fieldAddr, ↓aop_field, ↓aop_indexAddr, ↓aop_index, ↓aop_lookup, ↓aop_mapUpdate, ↓aop_insert, ↓aop_extract, ↓aop_callB, ↓aop_callF, ↓aop_callT, ↓aop_makeFunc, ↓aop_makeMap, ↓aop_slice, ↓aevs_nil, ↓aevs_cons, ↓evP_nil, ↓evP_cons, ↓aevO_none, ↓aevO_some, ↓reduceIte, reduceCtorEq, Nat.reduceEqDiff, Nat.reduceAdd, Nat.reduceLT, Nat.reduceSub, Nat.reduceMul, Nat.reduceLeDiff, if_true, if_false, if_pos, if_neg, s11, Iss, hx, v1, Int.natCast_zero, Int.lt_irrefl, h32, mapUpdateA, ho, hu]
    try rfl
  | succ j =>
    have hlex := hlt.resolve_left (by omega)
    rw [Nat.add_sub_cancel] at hlex
    have hp := gt_some (L := L) (i := j) (by omega)
    have lp := gt_len (a := _) rfl hL hs (i := j) (by omega)
    have h35 := call35u (A := gt L j) (C := gt L (j + 1)) (by omega) (by omega)
    generalize gt L (j + 1) = x at *
    generalize gt L j = p at *
    generalize gt L 0 = y at *
    generalize lexC p x = z at *
    simp -implicitDefEqProofs (maxSteps := 1000000) (disch := omega) only [push_cast, ↓dstAt_zero, ↓dstAt_succ, ↓arun_skip, ↓arun_region, ↓arun_seq, ↓arun_cond, ↓arun_block, ↓arun_loop, ↓arun_exit, ↓arun_ret, aops_nil, aops_cons, aops_cons_guard, ↓putA_some, ↓putA_none, ↓aop_move, ↓aop_assign, ↓aop_pick, ↓aop_alloc, ↓aop_box, ↓aop_build, ↓aop_buildSlice, ↓aop_load, ↓aop_store, ↓aop_nilCheck, ↓aop_binOp, ↓aop_unOp, ↓aop_convert, ↓aop_makeSlice, ↓aop_fieldAddr, ↓aop_field, ↓aop_indexAddr, ↓aop_index, ↓aop_lookup, ↓aop_mapUpdate, ↓aop_insert, ↓aop_extract, ↓aop_callB, ↓aop_callF, ↓aop_callT, ↓aop_makeFunc, ↓aop_makeMap, ↓aop_slice, ↓aevs_nil, ↓aevs_cons, ↓evP_nil, ↓evP_cons, ↓aevO_none, ↓aevO_some, ↓reduceIte, reduceCtorEq, Nat.reduceEqDiff, Nat.reduceAdd, Nat.reduceLT, Nat.reduceSub, Nat.reduceMul, Nat.reduceLeDiff, if_true, if_false, if_pos, if_neg, s11, Iss, hx, h0, hp, v1, h35, tn1, Int.add_sub_cancel, h32, mapUpdateA, ho, hu]
    try rfl
theorem r11e {ks : List (List Int)} : roundA Try.cfg 11 iter (call Try.cfg) 0 a (s11 L ks L.length) = some (.exit 0, [(0, Iss L), (3, .mm 0)], [.map (ks.map mk6)]) := by
  cases h
  simp -implicitDefEqProofs (maxSteps := 1000000) (disch := omega) only [push_cast, ↓dstAt_zero, ↓dstAt_succ, ↓arun_skip, ↓arun_region, ↓arun_seq, ↓arun_cond, ↓arun_block, ↓arun_loop, ↓arun_exit, ↓arun_ret, aops_nil, aops_cons, aops_cons_guard, ↓putA_some, ↓putA_none, ↓aop_move, ↓aop_assign, ↓aop_pick, ↓aop_alloc, ↓aop_box, ↓aop_build, ↓aop_buildSlice, ↓aop_load, ↓aop_store, ↓aop_nilCheck, ↓aop_binOp, ↓aop_unOp, ↓aop_convert, ↓aop_makeSlice, ↓aop_fieldAddr, ↓aop_field, ↓aop_indexAddr, ↓aop_index, ↓aop_lookup, ↓aop_mapUpdate, ↓aop_insert, ↓aop_extract, ↓aop_callB, ↓aop_callF, ↓aop_callT, ↓aop_makeFunc, ↓aop_makeMap, ↓aop_slice, ↓aevs_nil, ↓aevs_cons, ↓evP_nil, ↓evP_cons, ↓aevO_none, ↓aevO_some, ↓reduceIte, reduceCtorEq, Nat.reduceEqDiff, Nat.reduceAdd, Nat.reduceLT, Nat.reduceSub, Nat.reduceMul, Nat.reduceLeDiff, if_true, if_false, if_pos, if_neg, s11, Iss, Int.lt_irrefl]
end
end Go.Proofs

/- group.IsGroup: the second loops, the function. -/
set_option linter.unusedVariables false
set_option linter.unusedSimpArgs false
set_option linter.unusedSectionVars false
namespace Go.Proofs
open Go.AI
set_option maxRecDepth 20000
set_option maxHeartbeats 2000000
theorem ok_len {L : List (List Int)} {i : Nat} (h : okG L i = true) : validL (gt L i) = true ∧ (gt L i).length = (gt L 0).length := by
  simp only [okG, Bool.and_eq_true, decide_eq_true_eq] at h
  exact ⟨h.1.1, h.1.2⟩
section
variable {L : List (List Int)} (hL : L.length ≤ 1000) (hs : ∀ x ∈ L, x.length ≤ 1000)
include hL hs
theorem l11 {a : Code} (h : loopOf 0 Try.f11 = some a) : ∀ k i, i + k = L.length → (∀ j, j < i → okG L j = true) → ∃ H', iter (roundA Try.cfg 11 iter (call Try.cfg) 0 a) (s11 L (kn L i) i) = some (if (List.range' i k).all (okG L) then (.exit 0, [(0, Iss L), (3, .mm 0)], [.map ((kn L L.length).map mk6)]) else (.ret, [(2, .v (.bool false))], H'))
  | 0, i, hi, hj => by
    have : i = L.length := by omega
    rw [this]
    exact ⟨[], iter_last (r11e h hL hs) (by simp)⟩
  | k + 1, i, hi, hj => by
    simp only [List.range'_succ, List.all_cons]
    cases hq : okG L i with
    | false => exact ⟨_, by simp only [Bool.false_and, Bool.false_eq_true, if_false]; exact iter_last (r11f h hL hs (by omega) hq) (by simp)⟩
    | true =>
      obtain ⟨H', h1⟩ := l11 h k (i + 1) (by omega) (fun j hj' => by
        by_cases e : j = i
        · rw [e]; exact hq
        · exact hj j (by omega))
      refine ⟨H', ?_⟩
      simp only [Bool.true_and]
      refine iter_normal (r11t h hL hs (by omega) hq (fun K hK => ?_)) h1
      obtain ⟨j, g1, rfl⟩ := (mem_kn i).1 hK
      rw [(ok_len (hj j g1)).2, (ok_len hq).2]
section
variable (hok : ∀ j, j < L.length → okG L j = true) {ks : List (List Int)} (hks : ∀ x, x ∈ ks ↔ x ∈ L)
include hok hks
def s11b (L ks : List (List Int)) (i : Nat) : St := ([(0, Iss L), (3, .mm 0), (63, Iss L), (64, I L.length), (65, I i)], [.map (ks.map mk6)])
def s11c (L ks : List (List Int)) (i k : Nat) : St := ([(0, Iss L), (3, .mm 0), (7, Is (gt L i)), (63, Iss L), (64, I L.length), (65, I i), (69, Iss L), (70, I L.length), (71, I k)], [.map (ks.map mk6)])
theorem i11 {a : Code} (h : loopOf 4 Try.f11 = some a) {i k : Nat} (hi : i < L.length) (hk : k < L.length) : roundA Try.cfg 11 iter (call Try.cfg) 4 a (s11c L ks i k) = some (if decide (mulP (gt L i) (gt L k) ∈ L) = true then (.normal, s11c L ks i (k + 1)) else (.ret, [(2, .v (.bool false))], [.map (ks.map mk6)])) := by
  have hy := gt_some hk
  obtain ⟨vi, li⟩ := ok_len (hok i hi)
  obtain ⟨vk, lk⟩ := ok_len (hok k hk)
  have h6 := valid_len vi
  have h33 := call33u (A := gt L i) (C := gt L k) h6 (by omega) (fun j hj => by rw [show (gt L i).length = (gt L k).length by omega]; exact valid_range vk (by omega))
  have hlen := mulP_length (gt L i) (gt L k)
  have h32 := call32 (A := mulP (gt L i) (gt L k)) (by omega)
  rw [hlen] at h32
  have hf := findA_key (A := mulP (gt L i) (gt L k)) (by omega) (ks := ks) (fun K hK => by
    obtain ⟨j, hj⟩ := List.mem_iff_getElem?.1 ((hks K).1 hK)
    have hjl := lt_of_get hj
    rw [gt_some hjl] at hj
    cases hj
    rw [(ok_len (hok j hjl)).2, hlen, li])
  have ho := keyOk_key (A := mulP (gt L i) (gt L k)) (by omega)
  have hz : (mulP (gt L i) (gt L k) ∈ ks) ↔ (mulP (gt L i) (gt L k) ∈ L) := hks _
  cases h
  simp only [s11c]
  by_cases hm : mulP (gt L i) (gt L k) ∈ L
  · rw [if_pos (hz.2 hm)] at hf
    rw [if_pos (decide_eq_true hm)]
    generalize mulP (gt L i) (gt L k) = p at *
    generalize gt L i = x at *
    generalize gt L k = y at *
    simp -implicitDefEqProofs (maxSteps := 1000000) (disch := omega) only [push_cast, ↓dstAt_zero, ↓dstAt_succ, ↓arun_skip, ↓arun_region, ↓arun_seq, ↓arun_cond, ↓arun_block, ↓arun_loop, ↓arun_exit, ↓arun_ret, aops_nil, aops_cons, aops_cons_guard, ↓putA_some, ↓putA_none, ↓aop_move, ↓aop_assign, ↓aop_pick, ↓aop_alloc, ↓aop_box, ↓aop_build, ↓aop_buildSlice, ↓aop_load, ↓aop_store, ↓aop_nilCheck, ↓aop_binOp, ↓aop_unOp, ↓aop_convert, ↓aop_makeSlice, ↓aop_fieldAddr, ↓aop_field, ↓aop_indexAddr, ↓aop_index, ↓aop_lookup, ↓aop_mapUpdate, ↓aop_insert, ↓aop_extract, ↓aop_callB, ↓aop_callF, ↓aop_callT, ↓aop_makeFunc, ↓aop_makeMap, ↓aop_slice, ↓aevs_nil, ↓aevs_cons, ↓evP_nil, ↓evP_cons, ↓aevO_none, ↓aevO_some, ↓reduceIte, reduceCtorEq, Nat.reduceEqDiff, Nat.reduceAdd, Nat.reduceLT, Nat.reduceSub, Nat.reduceMul, Nat.reduceLeDiff, if_true, if_false, if_pos, if_neg, s11c, Iss, hy, h33, h32, lookupA, ho, hf]
    try rfl
  · rw [if_neg (fun e => hm (hz.1 e))] at hf
    rw [if_neg (by simpa using hm)]
    generalize mulP (gt L i) (gt L k) = p at *
    generalize gt L i = x at *
    generalize gt L k = y at *
    simp -implicitDefEqProofs (maxSteps := 1000000) (disch := omega) only [push_cast, ↓dstAt_zero, ↓dstAt_succ, ↓arun_skip, ↓arun_region, ↓arun_seq, ↓arun_cond, ↓arun_block, ↓arun_loop, ↓arun_exit, ↓arun_ret, aops_nil, aops_cons, aops_cons_guard, ↓putA_some, ↓putA_none, ↓aop_move, ↓aop_assign, ↓aop_pick, ↓aop_alloc, ↓aop_box, ↓aop_build, ↓aop_buildSlice, ↓aop_load, ↓aop_store, ↓aop_nilCheck, ↓aop_binOp, ↓aop_unOp, ↓aop_convert, ↓aop_makeSlice, ↓aop_fieldAddr, ↓aop_field, ↓aop_indexAddr, ↓aop_index, ↓aop_lookup, ↓aop_mapUpdate, ↓aop_insert, ↓aop_extract, ↓aop_callB, ↓aop_callF, ↓aop_callT, ↓aop_makeFunc, ↓aop_makeMap, ↓aop_slice, ↓aevs_nil, ↓aevs_cons, ↓evP_nil, ↓evP_cons, ↓aevO_none, ↓aevO_some, ↓reduceIte, reduceCtorEq, Nat.reduceEqDiff, Nat.reduceAdd, Nat.reduceLT, Nat.reduceSub, Nat.reduceMul, Nat.reduceLeDiff, if_true, if_false, if_pos, if_neg, s11c, Iss, hy, h33, h32, lookupA, ho, hf]
    try rfl
theorem i11e {a : Code} (h : loopOf 4 Try.f11 = some a) {i : Nat} : roundA Try.cfg 11 iter (call Try.cfg) 4 a (s11c L ks i L.length) = some (.exit 4, s11b L ks i) := by
  cases h
  simp -implicitDefEqProofs (maxSteps := 1000000) (disch := omega) only [push_cast, ↓dstAt_zero, ↓dstAt_succ, ↓arun_skip, ↓arun_region, ↓arun_seq, ↓arun_cond, ↓arun_block, ↓arun_loop, ↓arun_exit, ↓arun_ret, aops_nil, aops_cons, aops_cons_guard, ↓putA_some, ↓putA_none, ↓aop_move, ↓aop_assign, ↓aop_pick, ↓aop_alloc, ↓aop_box, ↓aop_build, ↓aop_buildSlice, ↓aop_load, ↓aop_store, ↓aop_nilCheck, ↓aop_binOp, ↓aop_unOp, ↓aop_convert, ↓aop_makeSlice, ↓aop_fieldAddr, ↓aop_field, ↓aop_indexAddr, ↓aop_index, ↓aop_lookup, ↓aop_mapUpdate, ↓aop_insert, ↓aop_extract, ↓aop_callB, ↓aop_callF, ↓aop_callT, ↓aop_makeFunc, ↓aop_makeMap, ↓aop_slice, ↓aevs_nil, ↓aevs_cons, ↓evP_nil, ↓evP_cons, ↓aevO_none, ↓aevO_some, ↓reduceIte, reduceCtorEq, Nat.reduceEqDiff, Nat.reduceAdd, Nat.reduceLT, Nat.reduceSub, Nat.reduceMul, Nat.reduceLeDiff, if_true, if_false, if_pos, if_neg, s11b, s11c, Iss, Int.lt_irrefl]
theorem inner11 {a : Code} (h : loopOf 4 Try.f11 = some a) {i : Nat} (hi : i < L.length) : iter (roundA Try.cfg 11 iter (call Try.cfg) 4 a) (s11c L ks i 0) = some (if allG L i then (.exit 4, s11b L ks i) else (.ret, [(2, .v (.bool false))], [.map (ks.map mk6)])) :=
  iter_all (S := fun k => s11c L ks i k) (q := fun k => decide (mulP (gt L i) (gt L k) ∈ L)) (fun k hk hq => by have := i11 hL hs hok hks h hi hk; rw [if_pos hq] at this; exact this)
    (fun k hk hq => by have := i11 hL hs hok hks h hi hk; rw [if_neg (by rw [hq]; simp)] at this; exact this) (i11e hL hs hok hks h) (by simp) (by simp) L.length 0 (by omega)
theorem o11 {a : Code} (h : loopOf 2 Try.f11 = some a) {i : Nat} (hi : i < L.length) : roundA Try.cfg 11 iter (call Try.cfg) 2 a (s11b L ks i) = some (if allG L i = true then (.normal, s11b L ks (i + 1)) else (.ret, [(2, .v (.bool false))], [.map (ks.map mk6)])) := by
  cases h4 : loopOf 4 Try.f11 with
  | none => cases h4
  | some a4 =>
    have hH := inner11 hL hs hok hks h4 hi
    have hx := gt_some hi
    cases h
    cases h4
    simp only [s11b, s11c, Is, Iss, Int.natCast_zero] at hH
    generalize gt L i = x at *
    cases hg : allG L i with
    | true =>
      rw [hg, if_pos rfl] at hH
      simp -implicitDefEqProofs (maxSteps := 1000000) (disch := omega) only [push_cast, ↓dstAt_zero, ↓dstAt_succ, ↓arun_skip, ↓arun_region, ↓arun_seq, ↓arun_cond, ↓arun_block, ↓arun_loop, ↓arun_exit, ↓arun_ret, aops_nil, aops_cons, aops_cons_guard, ↓putA_some, ↓putA_none, ↓aop_move, ↓aop_assign, ↓aop_pick, ↓aop_alloc, ↓aop_box, ↓aop_build, ↓aop_buildSlice, ↓aop_load, ↓aop_store, ↓aop_nilCheck, ↓aop_binOp, ↓aop_unOp, ↓aop_convert, ↓aop_makeSlice, ↓aop_fieldAddr, ↓aop_field, ↓aop_indexAddr, ↓aop_index, ↓aop_lookup, ↓aop_mapUpdate, ↓aop_insert, ↓aop_extract, ↓aop_callB, ↓aop_callF, ↓aop_callT, ↓aop_makeFunc, ↓aop_makeMap, ↓aop_slice, ↓aevs_nil, ↓aevs_cons, ↓evP_nil, ↓evP_cons, ↓aevO_none, ↓aevO_some, ↓reduceIte, reduceCtorEq, Nat.reduceEqDiff, Nat.reduceAdd, Nat.reduceLT, Nat.reduceSub, Nat.reduceMul, Nat.reduceLeDiff, if_true, if_false, if_pos, if_neg, s11b, Iss, hx, hH]
      try rfl
    | false =>
      rw [hg, if_neg (by simp)] at hH
      simp -implicitDefEqProofs (maxSteps := 1000000) (disch := omega) only [push_cast, ↓dstAt_zero, ↓dstAt_succ, ↓arun_skip, ↓arun_region, ↓arun_seq, ↓arun_cond, ↓arun_block, ↓arun_loop, ↓arun_exit, ↓arun_ret, aops_nil, aops_cons, aops_cons_guard, ↓putA_some, ↓putA_none, ↓aop_move, ↓aop_assign, ↓aop_pick, ↓aop_alloc, ↓aop_box, ↓aop_build, ↓aop_buildSlice, ↓aop_load, ↓aop_store, ↓aop_nilCheck, ↓aop_binOp, ↓aop_unOp, ↓aop_convert, ↓aop_makeSlice, ↓aop_fieldAddr, ↓aop_field, ↓aop_indexAddr, ↓aop_index, ↓aop_lookup, ↓aop_mapUpdate, ↓aop_insert, ↓aop_extract, ↓aop_callB, ↓aop_callF, ↓aop_callT, ↓aop_makeFunc, ↓aop_makeMap, ↓aop_slice, ↓aevs_nil, ↓aevs_cons, ↓evP_nil, ↓evP_cons, ↓aevO_none, ↓aevO_some, ↓reduceIte, reduceCtorEq, Nat.reduceEqDiff, Nat.reduceAdd, Nat.reduceLT, Nat.reduceSub, Nat.reduceMul, Nat.reduceLeDiff, if_true, if_false, if_pos, if_neg, s11b, Iss, hx, hH]
      try rfl
theorem o11e {a : Code} (h : loopOf 2 Try.f11 = some a) : roundA Try.cfg 11 iter (call Try.cfg) 2 a (s11b L ks L.length) = some (.exit 2, [], [.map (ks.map mk6)]) := by
  cases h
  simp -implicitDefEqProofs (maxSteps := 1000000) (disch := omega) only [push_cast, ↓dstAt_zero, ↓dstAt_succ, ↓arun_skip, ↓arun_region, ↓arun_seq, ↓arun_cond, ↓arun_block, ↓arun_loop, ↓arun_exit, ↓arun_ret, aops_nil, aops_cons, aops_cons_guard, ↓putA_some, ↓putA_none, ↓aop_move, ↓aop_assign, ↓aop_pick, ↓aop_alloc, ↓aop_box, ↓aop_build, ↓aop_buildSlice, ↓aop_load, ↓aop_store, ↓aop_nilCheck, ↓aop_binOp, ↓aop_unOp, ↓aop_convert, ↓aop_makeSlice, ↓aop_fieldAddr, ↓aop_field, ↓aop_indexAddr, ↓aop_index, ↓aop_lookup, ↓aop_mapUpdate, ↓aop_insert, ↓aop_extract, ↓aop_callB, ↓aop_callF, ↓aop_callT, ↓aop_makeFunc, ↓aop_makeMap, ↓aop_slice, ↓aevs_nil, ↓aevs_cons, ↓evP_nil, ↓evP_cons, ↓aevO_none, ↓aevO_some, ↓reduceIte, reduceCtorEq, Nat.reduceEqDiff, Nat.reduceAdd, Nat.reduceLT, Nat.reduceSub, Nat.reduceMul, Nat.reduceLeDiff, if_true, if_false, if_pos, if_neg, s11b, Iss, Int.lt_irrefl]
theorem outer11 {a : Code} (h : loopOf 2 Try.f11 = some a) : iter (roundA Try.cfg 11 iter (call Try.cfg) 2 a) (s11b L ks 0) = some (if (List.range' 0 L.length).all (allG L) then (.exit 2, [], [.map (ks.map mk6)]) else (.ret, [(2, .v (.bool false))], [.map (ks.map mk6)])) :=
  iter_all (S := fun i => s11b L ks i) (q := allG L) (fun i hi hq => by have := o11 hL hs hok hks h hi; rw [if_pos hq] at this; exact this)
    (fun i hi hq => by have := o11 hL hs hok hks h hi; rw [if_neg (by rw [hq]; simp)] at this; exact this) (o11e hL hs hok hks h) (by simp) (by simp) L.length 0 (by omega)
end
theorem call11 : call Try.cfg 11 [.sl false L.length (L.map Is)] [] = some (.v (.bool (isG L)), []) := by
  refine call_step ?_
  cases h0 : loopOf 0 Try.f11 with
  | none => cases h0
  | some a0 =>
  cases h2 : loopOf 2 Try.f11 with
  | none => cases h2
  | some a2 =>
    obtain ⟨H', hH⟩ := l11 hL hs h0 L.length 0 (by omega) (fun j hj => by omega)
    have h0' := h0
    cases h0
    simp only [s11, kn, Iss, List.map_nil, Int.natCast_zero] at hH
    cases hok : (List.range' 0 L.length).all (okG L) with
    | false =>
      have e : isG L = false := by simp [isG, hok]
      rw [hok, if_neg (by simp)] at hH
      rw [e]
      simp -implicitDefEqProofs (maxSteps := 1000000) (disch := omega) only [stepA, bodyA, Try.f11, push_cast, ↓dstAt_zero, ↓dstAt_succ, ↓arun_skip, ↓arun_region, ↓arun_seq, ↓arun_cond, ↓arun_block, ↓arun_loop, ↓arun_exit, ↓arun_ret, aops_nil, aops_cons, aops_cons_guard, ↓putA_some, ↓putA_none, ↓aop_move, ↓aop_assign, ↓aop_pick, ↓aop_alloc, ↓aop_box, ↓aop_build, ↓aop_buildSlice, ↓aop_load, ↓aop_store, ↓aop_nilCheck, ↓aop_binOp, ↓aop_unOp, ↓aop_convert, ↓aop_makeSlice, ↓aop_fieldAddr, ↓aop_field, ↓aop_indexAddr, ↓aop_index, ↓aop_lookup, ↓aop_mapUpdate, ↓aop_insert, ↓aop_extract, ↓aop_callB, ↓aop_callF, ↓aop_callT, ↓aop_makeFunc, ↓aop_makeMap, ↓aop_slice, ↓aevs_nil, ↓aevs_cons, ↓evP_nil, ↓evP_cons, ↓aevO_none, ↓aevO_some, ↓reduceIte, reduceCtorEq, Nat.reduceEqDiff, Nat.reduceAdd, Nat.reduceLT, Nat.reduceSub, Nat.reduceMul, Nat.reduceLeDiff, if_true, if_false, if_pos, if_neg, mapNewA, hH]
    | true =>
      rw [hok, if_pos rfl] at hH
      have hok' : ∀ j, j < L.length → okG L j = true := fun j hj => List.all_eq_true.1 hok j (by simp [List.mem_range']; omega)
      by_cases hne : L = []
      · subst hne
        have e : isG [] = false := by simp [isG]
        rw [e]
        simp only [List.length_nil, List.map_nil, Int.natCast_zero] at hH
        simp -implicitDefEqProofs (maxSteps := 1000000) (disch := omega) only [stepA, bodyA, Try.f11, push_cast, ↓dstAt_zero, ↓dstAt_succ, ↓arun_skip, ↓arun_region, ↓arun_seq, ↓arun_cond, ↓arun_block, ↓arun_loop, ↓arun_exit, ↓arun_ret, aops_nil, aops_cons, aops_cons_guard, ↓putA_some, ↓putA_none, ↓aop_move, ↓aop_assign, ↓aop_pick, ↓aop_alloc, ↓aop_box, ↓aop_build, ↓aop_buildSlice, ↓aop_load, ↓aop_store, ↓aop_nilCheck, ↓aop_binOp, ↓aop_unOp, ↓aop_convert, ↓aop_makeSlice, ↓aop_fieldAddr, ↓aop_field, ↓aop_indexAddr, ↓aop_index, ↓aop_lookup, ↓aop_mapUpdate, ↓aop_insert, ↓aop_extract, ↓aop_callB, ↓aop_callF, ↓aop_callT, ↓aop_makeFunc, ↓aop_makeMap, ↓aop_slice, ↓aevs_nil, ↓aevs_cons, ↓evP_nil, ↓evP_cons, ↓aevO_none, ↓aevO_some, ↓reduceIte, reduceCtorEq, Nat.reduceEqDiff, Nat.reduceAdd, Nat.reduceLT, Nat.reduceSub, Nat.reduceMul, Nat.reduceLeDiff, if_true, if_false, if_pos, if_neg, mapNewA, hH, Int.natCast_zero]
      · have hpos : 0 < L.length := List.length_pos_iff.2 hne
        have hx := gt_some hpos
        have hv := ok_len (hok' 0 hpos)
        have h6 := valid_len hv.1
        have h31 := call31u (n := (gt L 0).length) (by omega)
        have hil := idP_length (gt L 0).length
        have h37 := call37u (A := gt L 0) (C := idP (gt L 0).length) (by omega) (by omega)
        rw [hil] at h37
        have hO := outer11 hL hs hok' (ks := kn L L.length) (fun y => mem_kn_all) h2
        have eG : isG L = (decide (gt L 0 = idP (gt L 0).length) && (List.range' 0 L.length).all (allG L)) := by
          unfold isG
          rw [hok, decide_eq_false hne]
          simp
        rw [eG]
        cases h2
        simp only [s11b, Iss, Int.natCast_zero] at hO
        generalize kn L L.length = ks at *
        by_cases hid : gt L 0 = idP (gt L 0).length
        · rw [decide_eq_true hid] at h37 ⊢
          clear eG hid hv
          generalize gt L 0 = x at *
          cases hall : (List.range' 0 L.length).all (allG L) with
          | true =>
            rw [hall, if_pos rfl] at hO
            simp -implicitDefEqProofs (maxSteps := 1000000) (disch := omega) only [stepA, bodyA, Try.f11, push_cast, ↓dstAt_zero, ↓dstAt_succ, ↓arun_skip, ↓arun_region, ↓arun_seq, ↓arun_cond, ↓arun_block, ↓arun_loop, ↓arun_exit, ↓arun_ret, aops_nil, aops_cons, aops_cons_guard, ↓putA_some, ↓putA_none, ↓aop_move, ↓aop_assign, ↓aop_pick, ↓aop_alloc, ↓aop_box, ↓aop_build, ↓aop_buildSlice, ↓aop_load, ↓aop_store, ↓aop_nilCheck, ↓aop_binOp, ↓aop_unOp, ↓aop_convert, ↓aop_makeSlice, ↓aop_fieldAddr, ↓aop_field, ↓aop_indexAddr, ↓aop_index, ↓aop_lookup, ↓aop_mapUpdate, ↓aop_insert, ↓aop_extract, ↓aop_callB, ↓aop_callF, ↓aop_callT, ↓aop_makeFunc, ↓aop_makeMap, ↓aop_slice, ↓aevs_nil, ↓aevs_cons, ↓evP_nil, ↓evP_cons, ↓aevO_none, ↓aevO_some, ↓reduceIte, reduceCtorEq, Nat.reduceEqDiff, Nat.reduceAdd, Nat.reduceLT, Nat.reduceSub, Nat.reduceMul, Nat.reduceLeDiff, if_true, if_false, if_pos, if_neg, mapNewA, hH, hO, h31, h37, hx]
          | false =>
            rw [hall, if_neg (by simp)] at hO
            simp -implicitDefEqProofs (maxSteps := 1000000) (disch := omega) only [stepA, bodyA, Try.f11, push_cast, ↓dstAt_zero, ↓dstAt_succ, ↓arun_skip, ↓arun_region, ↓arun_seq, ↓arun_cond, ↓arun_block, ↓arun_loop, ↓arun_exit, ↓arun_ret, aops_nil, aops_cons, aops_cons_guard, ↓putA_some, ↓putA_none, ↓aop_move, ↓aop_assign, ↓aop_pick, ↓aop_alloc, ↓aop_box, ↓aop_build, ↓aop_buildSlice, ↓aop_load, ↓aop_store, ↓aop_nilCheck, ↓aop_binOp, ↓aop_unOp, ↓aop_convert, ↓aop_makeSlice, ↓aop_fieldAddr, ↓aop_field, ↓aop_indexAddr, ↓aop_index, ↓aop_lookup, ↓aop_mapUpdate, ↓aop_insert, ↓aop_extract, ↓aop_callB, ↓aop_callF, ↓aop_callT, ↓aop_makeFunc, ↓aop_makeMap, ↓aop_slice, ↓aevs_nil, ↓aevs_cons, ↓evP_nil, ↓evP_cons, ↓aevO_none, ↓aevO_some, ↓reduceIte, reduceCtorEq, Nat.reduceEqDiff, Nat.reduceAdd, Nat.reduceLT, Nat.reduceSub, Nat.reduceMul, Nat.reduceLeDiff, if_true, if_false, if_pos, if_neg, mapNewA, hH, hO, h31, h37, hx]
        · rw [decide_eq_false hid] at h37 ⊢
          clear eG hid hv
          generalize gt L 0 = x at *
          simp -implicitDefEqProofs (maxSteps := 1000000) (disch := omega) only [stepA, bodyA, Try.f11, push_cast, ↓dstAt_zero, ↓dstAt_succ, ↓arun_skip, ↓arun_region, ↓arun_seq, ↓arun_cond, ↓arun_block, ↓arun_loop, ↓arun_exit, ↓arun_ret, aops_nil, aops_cons, aops_cons_guard, ↓putA_some, ↓putA_none, ↓aop_move, ↓aop_assign, ↓aop_pick, ↓aop_alloc, ↓aop_box, ↓aop_build, ↓aop_buildSlice, ↓aop_load, ↓aop_store, ↓aop_nilCheck, ↓aop_binOp, ↓aop_unOp, ↓aop_convert, ↓aop_makeSlice, ↓aop_fieldAddr, ↓aop_field, ↓aop_indexAddr, ↓aop_index, ↓aop_lookup, ↓aop_mapUpdate, ↓aop_insert, ↓aop_extract, ↓aop_callB, ↓aop_callF, ↓aop_callT, ↓aop_makeFunc, ↓aop_makeMap, ↓aop_slice, ↓aevs_nil, ↓aevs_cons, ↓evP_nil, ↓evP_cons, ↓aevO_none, ↓aevO_some, ↓reduceIte, reduceCtorEq, Nat.reduceEqDiff, Nat.reduceAdd, Nat.reduceLT, Nat.reduceSub, Nat.reduceMul, Nat.reduceLeDiff, if_true, if_false, if_pos, if_neg, mapNewA, hH, h31, h37, hx, Bool.false_and]
end
end Go.Proofs

/- place. -/
set_option linter.unusedVariables false
set_option linter.unusedSimpArgs false
set_option linter.unusedSectionVars false
namespace Go.Proofs
open Go.AI
set_option maxRecDepth 20000
/-- Binary search. -/
def binS (L : List (List Int)) (b : List Int) : Nat → Nat → Nat → Nat
  | 0, lo, _ => lo
  | f + 1, lo, hi => if lo < hi then (if ltL (L.getD ((lo + hi) / 2) []) b then binS L b f ((lo + hi) / 2 + 1) hi else binS L b f lo ((lo + hi) / 2)) else lo
theorem binS_le {L : List (List Int)} {b : List Int} : ∀ (f lo hi : Nat), lo ≤ hi → lo ≤ binS L b f lo hi ∧ binS L b f lo hi ≤ hi
  | 0, lo, hi, h => by simp [binS, h]
  | f + 1, lo, hi, h => by
    rw [binS]
    split
    · split
      · have := binS_le (L := L) (b := b) f ((lo + hi) / 2 + 1) hi (by omega)
        omega
      · have := binS_le (L := L) (b := b) f lo ((lo + hi) / 2) (by omega)
        omega
    · omega
section
variable {a : Code} (h : loopOf 0 Try.f40 = some a) {L : List (List Int)} {b : List Int} (hL : L.length ≤ 1000000) (hs : ∀ x ∈ L, x.length ≤ 1000000) (hb : b.length ≤ 1000000) {lo hi : Nat}
include h hL hs hb
def st40 (L : List (List Int)) (b : List Int) (lo hi : Nat) : St := ([(0, Iss L), (1, Is b), (6, I lo), (7, I hi)], [])
theorem r40a (hlt : lo < hi) (hhi : hi ≤ L.length) (hc : ltL (L.getD ((lo + hi) / 2) []) b = true) : roundA Try.cfg 40 iter (call Try.cfg) 0 a (st40 L b lo hi) = some (.normal, st40 L b ((lo + hi) / 2 + 1) hi) := by
  cases h
  have hm : (lo + hi) / 2 < L.length := by omega
  have hx : L[(lo + hi) / 2]? = some (L.getD ((lo + hi) / 2) []) := by simp [hm]
  have e2 : Int.tdiv ((lo : Int) + hi) 2 = (((lo + hi) / 2 : Nat) : Int) := by rw [Int.tdiv_eq_ediv_of_nonneg (by omega)]; omega
  have hlen : (L.getD ((lo + hi) / 2) []).length ≤ 1000000 := hs _ (List.mem_of_getElem? hx)
  have h39 := call39 (A := L.getD ((lo + hi) / 2) []) (C := b) hlen hb
  rw [hc] at h39
  generalize L.getD ((lo + hi) / 2) [] = x at *
  generalize (lo + hi) / 2 = m at *
  simp -implicitDefEqProofs (disch := omega) only [push_cast, ↓dstAt_zero, ↓dstAt_succ, ↓arun_skip, ↓arun_region, ↓arun_seq, ↓arun_cond, ↓arun_block, ↓arun_loop, ↓arun_exit, ↓arun_ret, aops_nil, aops_cons, aops_cons_guard, ↓putA_some, ↓putA_none, ↓aop_move, ↓aop_assign, ↓aop_pick, ↓aop_alloc, ↓aop_box, ↓aop_build, ↓aop_buildSlice, ↓aop_load, ↓aop_store, ↓aop_nilCheck, ↓aop_binOp, ↓aop_unOp, ↓aop_convert, ↓aop_makeSlice, ↓aop_fieldAddr, ↓aop_field, ↓aop_indexAddr, ↓aop_index, ↓aop_lookup, ↓aop_mapUpdate, ↓aop_insert, ↓aop_extract, ↓aop_callB, ↓aop_callF, ↓aop_callT, ↓aop_makeFunc, ↓aop_makeMap, ↓aop_slice, ↓aevs_nil, ↓aevs_cons, ↓evP_nil, ↓evP_cons, ↓aevO_none, ↓aevO_some, ↓reduceIte, reduceCtorEq, Nat.reduceEqDiff, Nat.reduceAdd, Nat.reduceLT, Nat.reduceSub, Nat.reduceMul, Nat.reduceLeDiff, if_true, if_false, if_pos, if_neg, Try.sh39, st40, Iss, hx, h39, abin_quo, e2]
  try rfl
theorem r40b (hlt : lo < hi) (hhi : hi ≤ L.length) (hc : ltL (L.getD ((lo + hi) / 2) []) b = false) : roundA Try.cfg 40 iter (call Try.cfg) 0 a (st40 L b lo hi) = some (.normal, st40 L b lo ((lo + hi) / 2)) := by
  cases h
  have hm : (lo + hi) / 2 < L.length := by omega
  have hx : L[(lo + hi) / 2]? = some (L.getD ((lo + hi) / 2) []) := by simp [hm]
  have e2 : Int.tdiv ((lo : Int) + hi) 2 = (((lo + hi) / 2 : Nat) : Int) := by rw [Int.tdiv_eq_ediv_of_nonneg (by omega)]; omega
  have hlen : (L.getD ((lo + hi) / 2) []).length ≤ 1000000 := hs _ (List.mem_of_getElem? hx)
  have h39 := call39 (A := L.getD ((lo + hi) / 2) []) (C := b) hlen hb
  rw [hc] at h39
  generalize L.getD ((lo + hi) / 2) [] = x at *
  generalize (lo + hi) / 2 = m at *
  simp -implicitDefEqProofs (disch := omega) only [push_cast, ↓dstAt_zero, ↓dstAt_succ, ↓arun_skip, ↓arun_region, ↓arun_seq, ↓arun_cond, ↓arun_block, ↓arun_loop, ↓arun_exit, ↓arun_ret, aops_nil, aops_cons, aops_cons_guard, ↓putA_some, ↓putA_none, ↓aop_move, ↓aop_assign, ↓aop_pick, ↓aop_alloc, ↓aop_box, ↓aop_build, ↓aop_buildSlice, ↓aop_load, ↓aop_store, ↓aop_nilCheck, ↓aop_binOp, ↓aop_unOp, ↓aop_convert, ↓aop_makeSlice, ↓aop_fieldAddr, ↓aop_field, ↓aop_indexAddr, ↓aop_index, ↓aop_lookup, ↓aop_mapUpdate, ↓aop_insert, ↓aop_extract, ↓aop_callB, ↓aop_callF, ↓aop_callT, ↓aop_makeFunc, ↓aop_makeMap, ↓aop_slice, ↓aevs_nil, ↓aevs_cons, ↓evP_nil, ↓evP_cons, ↓aevO_none, ↓aevO_some, ↓reduceIte, reduceCtorEq, Nat.reduceEqDiff, Nat.reduceAdd, Nat.reduceLT, Nat.reduceSub, Nat.reduceMul, Nat.reduceLeDiff, if_true, if_false, if_pos, if_neg, Try.sh39, st40, Iss, hx, h39, abin_quo, e2]
theorem r40c (hlt : ¬ lo < hi) : roundA Try.cfg 40 iter (call Try.cfg) 0 a (st40 L b lo hi) = some (.exit 0, [(0, Iss L), (1, Is b), (6, I lo)], []) := by
  cases h
  simp -implicitDefEqProofs (disch := omega) only [push_cast, ↓dstAt_zero, ↓dstAt_succ, ↓arun_skip, ↓arun_region, ↓arun_seq, ↓arun_cond, ↓arun_block, ↓arun_loop, ↓arun_exit, ↓arun_ret, aops_nil, aops_cons, aops_cons_guard, ↓putA_some, ↓putA_none, ↓aop_move, ↓aop_assign, ↓aop_pick, ↓aop_alloc, ↓aop_box, ↓aop_build, ↓aop_buildSlice, ↓aop_load, ↓aop_store, ↓aop_nilCheck, ↓aop_binOp, ↓aop_unOp, ↓aop_convert, ↓aop_makeSlice, ↓aop_fieldAddr, ↓aop_field, ↓aop_indexAddr, ↓aop_index, ↓aop_lookup, ↓aop_mapUpdate, ↓aop_insert, ↓aop_extract, ↓aop_callB, ↓aop_callF, ↓aop_callT, ↓aop_makeFunc, ↓aop_makeMap, ↓aop_slice, ↓aevs_nil, ↓aevs_cons, ↓evP_nil, ↓evP_cons, ↓aevO_none, ↓aevO_some, ↓reduceIte, reduceCtorEq, Nat.reduceEqDiff, Nat.reduceAdd, Nat.reduceLT, Nat.reduceSub, Nat.reduceMul, Nat.reduceLeDiff, if_true, if_false, if_pos, if_neg, st40, Iss]
theorem l40 : ∀ (f lo hi : Nat), hi - lo ≤ f → hi ≤ L.length → iter (roundA Try.cfg 40 iter (call Try.cfg) 0 a) (st40 L b lo hi) = some (.exit 0, [(0, Iss L), (1, Is b), (6, I (binS L b f lo hi))], [])
  | 0, lo, hi, hf, hhi => iter_last (r40c h hL hs hb (by omega)) (by simp)
  | f + 1, lo, hi, hf, hhi => by
    rw [binS]
    by_cases hlt : lo < hi
    · rw [if_pos hlt]
      cases hc : ltL (L.getD ((lo + hi) / 2) []) b with
      | true =>
        rw [if_pos rfl]
        exact iter_normal (r40a h hL hs hb hlt hhi hc) (l40 f _ _ (by omega) hhi)
      | false =>
        rw [if_neg (by simp)]
        exact iter_normal (r40b h hL hs hb hlt hhi hc) (l40 f _ _ (by omega) (by omega))
    · rw [if_neg hlt]
      exact iter_last (r40c h hL hs hb hlt) (by simp)
end
def placeL (L : List (List Int)) (b : List Int) : Nat := binS L b L.length 0 L.length
theorem placeL_le (L : List (List Int)) (b : List Int) : placeL L b ≤ L.length := (binS_le _ _ _ (Nat.zero_le _)).2
theorem call40 {L : List (List Int)} {b : List Int} (hL : L.length ≤ 1000000) (hs : ∀ x ∈ L, x.length ≤ 1000000) (hb : b.length ≤ 1000000) : call Try.cfg 40 [.sl false L.length (L.map Is), .sl false b.length (b.map I)] [] = some (.tu [.v (.int .i64 (placeL L b)), .v (.bool (decide (L[placeL L b]? = some b)))], []) := by
  refine call_step ?_
  cases hl : loopOf 0 Try.f40 with
  | none => cases hl
  | some a =>
    have hH := l40 hl hL hs hb L.length 0 L.length (by omega) (Nat.le_refl _)
    cases hl
    have hle := placeL_le L b
    rw [show binS L b L.length 0 L.length = placeL L b from rfl] at hH
    simp only [st40, Is, Iss, Int.natCast_zero] at hH
    generalize placeL L b = k at *
    by_cases hk : k < L.length
    · have hx : L[k]? = some (L.getD k []) := by simp [hk]
      have hlen : (L.getD k []).length ≤ 1000000 := hs _ (List.mem_of_getElem? hx)
      have h37 := call37 (A := L.getD k []) (C := b) hlen hb
      have e : decide (L[k]? = some b) = decide (L.getD k [] = b) := by rw [hx]; simp only [Option.some.injEq]
      rw [e]
      simp only [Is] at h37
      generalize L.getD k [] = x at *
      simp -implicitDefEqProofs (disch := omega) only [stepA, bodyA, Try.cfgO, Try.sh40, Try.sh37, Try.func40, Try.f40, push_cast, ↓dstAt_zero, ↓dstAt_succ, ↓arun_skip, ↓arun_region, ↓arun_seq, ↓arun_cond, ↓arun_block, ↓arun_loop, ↓arun_exit, ↓arun_ret, aops_nil, aops_cons, aops_cons_guard, ↓putA_some, ↓putA_none, ↓aop_move, ↓aop_assign, ↓aop_pick, ↓aop_alloc, ↓aop_box, ↓aop_build, ↓aop_buildSlice, ↓aop_load, ↓aop_store, ↓aop_nilCheck, ↓aop_binOp, ↓aop_unOp, ↓aop_convert, ↓aop_makeSlice, ↓aop_fieldAddr, ↓aop_field, ↓aop_indexAddr, ↓aop_index, ↓aop_lookup, ↓aop_mapUpdate, ↓aop_insert, ↓aop_extract, ↓aop_callB, ↓aop_callF, ↓aop_callT, ↓aop_makeFunc, ↓aop_makeMap, ↓aop_slice, ↓aevs_nil, ↓aevs_cons, ↓evP_nil, ↓evP_cons, ↓aevO_none, ↓aevO_some, ↓reduceIte, reduceCtorEq, Nat.reduceEqDiff, Nat.reduceAdd, Nat.reduceLT, Nat.reduceSub, Nat.reduceMul, Nat.reduceLeDiff, if_true, if_false, if_pos, if_neg, hH, hx, h37]
    · have e : decide (L[k]? = some b) = false := by
        have : L[k]? = none := by simp; omega
        rw [this]; rfl
      rw [e]
      simp -implicitDefEqProofs (disch := omega) only [stepA, bodyA, Try.cfgO, Try.sh40, Try.func40, Try.f40, push_cast, ↓dstAt_zero, ↓dstAt_succ, ↓arun_skip, ↓arun_region, ↓arun_seq, ↓arun_cond, ↓arun_block, ↓arun_loop, ↓arun_exit, ↓arun_ret, aops_nil, aops_cons, aops_cons_guard, ↓putA_some, ↓putA_none, ↓aop_move, ↓aop_assign, ↓aop_pick, ↓aop_alloc, ↓aop_box, ↓aop_build, ↓aop_buildSlice, ↓aop_load, ↓aop_store, ↓aop_nilCheck, ↓aop_binOp, ↓aop_unOp, ↓aop_convert, ↓aop_makeSlice, ↓aop_fieldAddr, ↓aop_field, ↓aop_indexAddr, ↓aop_index, ↓aop_lookup, ↓aop_mapUpdate, ↓aop_insert, ↓aop_extract, ↓aop_callB, ↓aop_callF, ↓aop_callT, ↓aop_makeFunc, ↓aop_makeMap, ↓aop_slice, ↓aevs_nil, ↓aevs_cons, ↓evP_nil, ↓evP_cons, ↓aevO_none, ↓aevO_some, ↓reduceIte, reduceCtorEq, Nat.reduceEqDiff, Nat.reduceAdd, Nat.reduceLT, Nat.reduceSub, Nat.reduceMul, Nat.reduceLeDiff, if_true, if_false, if_pos, if_neg, hH]
end Go.Proofs

/- ref.IsGroup. -/
set_option linter.unusedVariables false
set_option linter.unusedSimpArgs false
set_option linter.unusedSectionVars false
namespace Go.Proofs
open Go.AI
set_option maxRecDepth 20000
set_option maxHeartbeats 2000000
theorem _root_.Go.AI.Cmp.lt_trans {α : Type} {c : α → α → Int} (hC : Cmp c) {x y z : α} (h : c x y < 0) (h' : c y z < 0) : c x z < 0 := by
  rcases Int.lt_or_le (c x z) 0 with h1 | h1
  · exact h1
  · exact absurd h' (hC.tr z x y (by omega) (hC.asym _ _ h))
/-- Strictly ascending. -/
def Asc (L : List (List Int)) : Prop := ∀ i j, i < j → j < L.length → lexC (gt L i) (gt L j) < 0
theorem asc_of {L : List (List Int)} (h : ∀ i, i + 1 < L.length → lexC (gt L i) (gt L (i + 1)) < 0) : Asc L := by
  intro i j hij hj
  induction j with
  | zero => omega
  | succ j ih =>
    have h1 := h j hj
    by_cases e : i = j
    · rw [e]; exact h1
    · exact lex_cmp.lt_trans (ih (by omega) (by omega)) h1
theorem binS_spec {L : List (List Int)} {b : List Int} (hA : Asc L) : ∀ (f lo hi : Nat), hi - lo ≤ f → lo ≤ hi → hi ≤ L.length → (∀ j, j < lo → ltL (gt L j) b = true) → (∀ j, hi ≤ j → j < L.length → ltL (gt L j) b = false) →
    (∀ j, j < binS L b f lo hi → ltL (gt L j) b = true) ∧ (∀ j, binS L b f lo hi ≤ j → j < L.length → ltL (gt L j) b = false)
  | 0, lo, hi, hf, h1, h2, h3, h4 => by
    have : lo = hi := by omega
    rw [binS]
    exact ⟨h3, by rw [this]; exact h4⟩
  | f + 1, lo, hi, hf, h1, h2, h3, h4 => by
    rw [binS]
    by_cases hlt : lo < hi
    · rw [if_pos hlt]
      have hm1 : lo ≤ (lo + hi) / 2 := by omega
      have hm2 : (lo + hi) / 2 < hi := by omega
      generalize (lo + hi) / 2 = m at *
      have e : L.getD m [] = gt L m := rfl
      rw [e]
      cases hc : ltL (gt L m) b with
      | true =>
        rw [if_pos rfl]
        refine binS_spec hA f (m + 1) hi (by omega) (by omega) h2 (fun j hj => ?_) h4
        by_cases ej : j = m
        · rw [ej]; exact hc
        · have := hA j m (by omega) (by omega)
          rw [ltL_iff] at hc ⊢
          exact lex_cmp.lt_trans this hc
      | false =>
        rw [if_neg (by simp)]
        refine binS_spec hA f lo m (by omega) (by omega) (by omega) h3 (fun j hj hjl => ?_)
        by_cases ej : j = m
        · rw [ej]; exact hc
        · have h5 := hA m j (by omega) hjl
          cases hj' : ltL (gt L j) b with
          | false => rfl
          | true =>
            rw [ltL_iff] at hj'
            have := lex_cmp.lt_trans h5 hj'
            rw [← ltL_iff, hc] at this
            cases this
    · rw [if_neg hlt]
      have : lo = hi := by omega
      exact ⟨h3, by rw [this]; exact h4⟩
theorem place_spec {L : List (List Int)} {b : List Int} (hA : Asc L) : (∀ j, j < placeL L b → ltL (gt L j) b = true) ∧ (∀ j, placeL L b ≤ j → j < L.length → ltL (gt L j) b = false) :=
  binS_spec hA L.length 0 L.length (by omega) (Nat.zero_le _) (Nat.le_refl _) (fun j hj => by omega) (fun j h1 h2 => by omega)
theorem ltL_self (b : List Int) : ltL b b = false := by
  cases h : ltL b b with
  | false => rfl
  | true => rw [ltL_iff, lexC_self] at h; omega
theorem place_mem {L : List (List Int)} {b : List Int} (hA : Asc L) : (L[placeL L b]? = some b) ↔ b ∈ L := by
  constructor
  · exact List.mem_of_getElem?
  · intro h
    obtain ⟨j, hj⟩ := List.mem_iff_getElem?.1 h
    have hjl := lt_of_get hj
    rw [gt_some hjl] at hj
    cases hj
    obtain ⟨h1, h2⟩ := place_spec (b := gt L j) hA
    have hge : placeL L (gt L j) ≤ j := by
      rcases Nat.lt_or_ge j (placeL L (gt L j)) with hlt | hge
      · have := h1 j hlt
        rw [ltL_self] at this
        cases this
      · exact hge
    have hlt : placeL L (gt L j) < L.length := by omega
    by_cases e : placeL L (gt L j) = j
    · have e2 := gt_some hjl
      rw [e]
      exact e2
    · have h3 := hA _ j (show placeL L (gt L j) < j by omega) hjl
      have h4 := h2 _ (Nat.le_refl _) hlt
      rw [← ltL_iff, h4] at h3
      cases h3
section
variable {L : List (List Int)} (hL : L.length ≤ 720) (hs : ∀ x ∈ L, x.length ≤ 1000)
include hL hs
def s12 (L : List (List Int)) (i : Nat) : St := ([(0, Iss L), (3, I i)], [])
theorem r12 {a : Code} (h : loopOf 0 Try.f12 = some a) {j : Nat} (hi : j + 1 < L.length) : roundA Try.cfg 12 iter (call Try.cfg) 0 a (s12 L (j + 1)) = some (if okG L (j + 1) = true then (.normal, s12 L (j + 1 + 1)) else (.ret, [(2, .v (.bool false))], [])) := by
  have hg := fun i (h : i < L.length) => hs _ (List.mem_of_getElem? (gt_some h))
  have hx := gt_some hi
  have h0 := gt_some (L := L) (i := 0) (by omega)
  have hp := gt_some (L := L) (i := j) (by omega)
  have l1 := hg _ hi
  have lp := hg j (by omega)
  have v1 := call24u l1
  cases h
  cases hv : validL (gt L (j + 1)) with
  | false =>
    rw [hv] at v1
    have e : okG L (j + 1) = false := by simp [okG, hv]
    rw [e, if_neg (by simp)]
    generalize gt L (j + 1) = x at *
    simp -implicitDefEqProofs (maxSteps := 1000000) (disch := omega) only [push_cast, ↓dstAt_zero, ↓dstAt_succ, ↓arun_skip, ↓arun_region, ↓arun_seq, ↓arun_cond, ↓arun_block, ↓arun_loop, ↓arun_exit, ↓arun_ret, aops_nil, aops_cons, aops_cons_guard, ↓putA_some, ↓putA_none, ↓aop_move, ↓aop_assign, ↓aop_pick, ↓aop_alloc, ↓aop_box, ↓aop_build, ↓aop_buildSlice, ↓aop_load, ↓aop_store, ↓aop_nilCheck, ↓aop_binOp, ↓aop_unOp, ↓aop_convert, ↓aop_makeSlice, ↓aop_fieldAddr, ↓aop_field, ↓aop_indexAddr, ↓aop_index, ↓aop_lookup, ↓aop_mapUpdate, ↓aop_insert, ↓aop_extract, ↓aop_callB, ↓aop_callF, ↓aop_callT, ↓aop_makeFunc, ↓aop_makeMap, ↓aop_slice, ↓aevs_nil, ↓aevs_cons, ↓evP_nil, ↓evP_cons, ↓aevO_none, ↓aevO_some, ↓reduceIte, reduceCtorEq, Nat.reduceEqDiff, Nat.reduceAdd, Nat.reduceLT, Nat.reduceSub, Nat.reduceMul, Nat.reduceLeDiff, if_true, if_false, if_pos, if_neg, s12, Iss, hx, v1, tn1]
  | true =>
    rw [hv] at v1
    by_cases hl : (gt L (j + 1)).length = (gt L 0).length
    · have h39 := call39 (A := gt L j) (C := gt L (j + 1)) (by omega) (by omega)
      have e : okG L (j + 1) = ltL (gt L j) (gt L (j + 1)) := by simp [okG, hv, hl, ltL]
      rw [e]
      cases hlt : ltL (gt L j) (gt L (j + 1)) with
      | true =>
        rw [hlt] at h39
        rw [if_pos rfl]
        generalize gt L (j + 1) = x at *
        generalize gt L j = p at *
        generalize gt L 0 = y at *
        simp -implicitDefEqProofs (maxSteps := 1000000) (disch := omega) only [push_cast, ↓dstAt_zero, ↓dstAt_succ, ↓arun_skip, ↓arun_region, ↓arun_seq, ↓arun_cond, ↓arun_block, ↓arun_loop, ↓arun_exit, ↓arun_ret, aops_nil, aops_cons, aops_cons_guard, ↓putA_some, ↓putA_none, ↓aop_move, ↓aop_assign, ↓aop_pick, ↓aop_alloc, ↓aop_box, ↓aop_build, ↓aop_buildSlice, ↓aop_load, ↓aop_store, ↓aop_nilCheck, ↓aop_binOp, ↓aop_unOp, ↓aop_convert, ↓aop_makeSlice, ↓aop_fieldAddr, ↓aop_field, ↓aop_indexAddr, ↓aop_index, ↓aop_lookup, ↓aop_mapUpdate, ↓aop_insert, ↓aop_extract, ↓aop_callB, ↓aop_callF, ↓aop_callT, ↓aop_makeFunc, ↓aop_makeMap, ↓aop_slice, ↓aevs_nil, ↓aevs_cons, ↓evP_nil, ↓evP_cons, ↓aevO_none, ↓aevO_some, ↓reduceIte, reduceCtorEq, Nat.reduceEqDiff, Nat.reduceAdd, Nat.reduceLT, Nat.reduceSub, Nat.reduceMul, Nat.reduceLeDiff, if_true, if_false, if_pos, if_neg, s12, Iss, hx, h0, hp, v1, h39, tn1, Int.add_sub_cancel]
      | false =>
        rw [hlt] at h39
        rw [if_neg (by simp)]
        generalize gt L (j + 1) = x at *
        generalize gt L j = p at *
        generalize gt L 0 = y at *
        simp -implicitDefEqProofs (maxSteps := 1000000) (disch := omega) only [push_cast, ↓dstAt_zero, ↓dstAt_succ, ↓arun_skip, ↓arun_region, ↓arun_seq, ↓arun_cond, ↓arun_block, ↓arun_loop, ↓arun_exit, ↓arun_ret, aops_nil, aops_cons, aops_cons_guard, ↓putA_some, ↓putA_none, ↓aop_move, ↓aop_assign, ↓aop_pick, ↓aop_alloc, ↓aop_box, ↓aop_build, ↓aop_buildSlice, ↓aop_load, ↓aop_store, ↓aop_nilCheck, ↓aop_binOp, ↓aop_unOp, ↓aop_convert, ↓aop_makeSlice, ↓aop_fieldAddr, ↓aop_field, ↓aop_indexAddr, ↓aop_index, ↓aop_lookup, ↓aop_mapUpdate, ↓aop_insert, ↓aop_extract, ↓aop_callB, ↓aop_callF, ↓aop_callT, ↓aop_makeFunc, ↓aop_makeMap, ↓aop_slice, ↓aevs_nil, ↓aevs_cons, ↓evP_nil, ↓evP_cons, ↓aevO_none, ↓aevO_some, ↓reduceIte, reduceCtorEq, Nat.reduceEqDiff, Nat.reduceAdd, Nat.reduceLT, Nat.reduceSub, Nat.reduceMul, Nat.reduceLeDiff, if_true, if_false, if_pos, if_neg, s12, Iss, hx, h0, hp, v1, h39, tn1, Int.add_sub_cancel]
    · have e : okG L (j + 1) = false := by simp [okG, hl]
      rw [e, if_neg (by simp)]
      generalize gt L (j + 1) = x at *
      generalize gt L 0 = y at *
      simp -implicitDefEqProofs (maxSteps := 1000000) (disch := omega) only [push_cast, ↓dstAt_zero, ↓dstAt_succ, ↓arun_skip, ↓arun_region, ↓arun_seq, ↓arun_cond, ↓arun_block, ↓arun_loop, ↓arun_exit, ↓arun_ret, aops_nil, aops_cons, aops_cons_guard, ↓putA_some, ↓putA_none, ↓aop_move, ↓aop_assign, ↓aop_pick, ↓aop_alloc, ↓aop_box, ↓aop_build, ↓aop_buildSlice, ↓aop_load, ↓aop_store, ↓aop_nilCheck, ↓aop_binOp, ↓aop_unOp, ↓aop_convert, ↓aop_makeSlice, ↓aop_fieldAddr, ↓aop_field, ↓aop_indexAddr, ↓aop_index, ↓aop_lookup, ↓aop_mapUpdate, ↓aop_insert, ↓aop_extract, ↓aop_callB, ↓aop_callF, ↓aop_callT, ↓aop_makeFunc, ↓aop_makeMap, ↓aop_slice, ↓aevs_nil, ↓aevs_cons, ↓evP_nil, ↓evP_cons, ↓aevO_none, ↓aevO_some, ↓reduceIte, reduceCtorEq, Nat.reduceEqDiff, Nat.reduceAdd, Nat.reduceLT, Nat.reduceSub, Nat.reduceMul, Nat.reduceLeDiff, if_true, if_false, if_pos, if_neg, s12, Iss, hx, h0, v1, tn1]
theorem r12e {a : Code} (h : loopOf 0 Try.f12 = some a) : roundA Try.cfg 12 iter (call Try.cfg) 0 a (s12 L L.length) = some (.exit 0, [(0, Iss L)], []) := by
  cases h
  simp -implicitDefEqProofs (maxSteps := 1000000) (disch := omega) only [push_cast, ↓dstAt_zero, ↓dstAt_succ, ↓arun_skip, ↓arun_region, ↓arun_seq, ↓arun_cond, ↓arun_block, ↓arun_loop, ↓arun_exit, ↓arun_ret, aops_nil, aops_cons, aops_cons_guard, ↓putA_some, ↓putA_none, ↓aop_move, ↓aop_assign, ↓aop_pick, ↓aop_alloc, ↓aop_box, ↓aop_build, ↓aop_buildSlice, ↓aop_load, ↓aop_store, ↓aop_nilCheck, ↓aop_binOp, ↓aop_unOp, ↓aop_convert, ↓aop_makeSlice, ↓aop_fieldAddr, ↓aop_field, ↓aop_indexAddr, ↓aop_index, ↓aop_lookup, ↓aop_mapUpdate, ↓aop_insert, ↓aop_extract, ↓aop_callB, ↓aop_callF, ↓aop_callT, ↓aop_makeFunc, ↓aop_makeMap, ↓aop_slice, ↓aevs_nil, ↓aevs_cons, ↓evP_nil, ↓evP_cons, ↓aevO_none, ↓aevO_some, ↓reduceIte, reduceCtorEq, Nat.reduceEqDiff, Nat.reduceAdd, Nat.reduceLT, Nat.reduceSub, Nat.reduceMul, Nat.reduceLeDiff, if_true, if_false, if_pos, if_neg, s12, Iss, Int.lt_irrefl]
section
variable (hok : ∀ j, j < L.length → okG L j = true)
include hok
theorem asc_ok : Asc L := asc_of fun i hi => by
  have := hok (i + 1) hi
  simp only [okG, Bool.and_eq_true, Bool.or_eq_true, decide_eq_true_eq, Nat.add_sub_cancel] at this
  exact this.2.resolve_left (by omega)
def s12b (L : List (List Int)) (i : Nat) : St := ([(0, Iss L), (4, I i)], [])
def s12c (L : List (List Int)) (i k : Nat) : St := ([(0, Iss L), (4, I i), (5, I k)], [])
theorem i12 {a : Code} (h : loopOf 4 Try.f12 = some a) {i k : Nat} (hi : i < L.length) (hk : k < L.length) : roundA Try.cfg 12 iter (call Try.cfg) 4 a (s12c L i k) = some (if decide (mulP (gt L i) (gt L k) ∈ L) = true then (.normal, s12c L i (k + 1)) else (.ret, [(2, .v (.bool false))], [])) := by
  have hx := gt_some hi
  have hy := gt_some hk
  obtain ⟨vi, li⟩ := ok_len (hok i hi)
  obtain ⟨vk, lk⟩ := ok_len (hok k hk)
  have h6 := valid_len vi
  have h41 := call41u (A := gt L i) (C := gt L k) h6 (by omega) (fun j hj => by rw [show (gt L i).length = (gt L k).length by omega]; exact valid_range vk (by omega))
  have hlen := mulP_length (gt L i) (gt L k)
  have h40 := call40 (L := L) (b := mulP (gt L i) (gt L k)) (by omega) (fun x hx => by have := hs x hx; omega) (by omega)
  rw [hlen] at h40
  have hz : decide (L[placeL L (mulP (gt L i) (gt L k))]? = some (mulP (gt L i) (gt L k))) = decide (mulP (gt L i) (gt L k) ∈ L) := decide_eq_decide.2 (place_mem (asc_ok hL hs hok))
  rw [hz] at h40
  cases h
  by_cases hm : mulP (gt L i) (gt L k) ∈ L
  · rw [decide_eq_true hm] at h40 ⊢
    rw [if_pos rfl]
    generalize placeL L (mulP (gt L i) (gt L k)) = pl at *
    generalize mulP (gt L i) (gt L k) = p at *
    generalize gt L i = x at *
    generalize gt L k = y at *
    simp -implicitDefEqProofs (maxSteps := 1000000) (disch := omega) only [push_cast, ↓dstAt_zero, ↓dstAt_succ, ↓arun_skip, ↓arun_region, ↓arun_seq, ↓arun_cond, ↓arun_block, ↓arun_loop, ↓arun_exit, ↓arun_ret, aops_nil, aops_cons, aops_cons_guard, ↓putA_some, ↓putA_none, ↓aop_move, ↓aop_assign, ↓aop_pick, ↓aop_alloc, ↓aop_box, ↓aop_build, ↓aop_buildSlice, ↓aop_load, ↓aop_store, ↓aop_nilCheck, ↓aop_binOp, ↓aop_unOp, ↓aop_convert, ↓aop_makeSlice, ↓aop_fieldAddr, ↓aop_field, ↓aop_indexAddr, ↓aop_index, ↓aop_lookup, ↓aop_mapUpdate, ↓aop_insert, ↓aop_extract, ↓aop_callB, ↓aop_callF, ↓aop_callT, ↓aop_makeFunc, ↓aop_makeMap, ↓aop_slice, ↓aevs_nil, ↓aevs_cons, ↓evP_nil, ↓evP_cons, ↓aevO_none, ↓aevO_some, ↓reduceIte, reduceCtorEq, Nat.reduceEqDiff, Nat.reduceAdd, Nat.reduceLT, Nat.reduceSub, Nat.reduceMul, Nat.reduceLeDiff, if_true, if_false, if_pos, if_neg, s12c, Iss, hx, hy, h41, h40]
    try rfl
  · rw [decide_eq_false hm] at h40 ⊢
    rw [if_neg (by simp)]
    generalize placeL L (mulP (gt L i) (gt L k)) = pl at *
    generalize mulP (gt L i) (gt L k) = p at *
    generalize gt L i = x at *
    generalize gt L k = y at *
    simp -implicitDefEqProofs (maxSteps := 1000000) (disch := omega) only [push_cast, ↓dstAt_zero, ↓dstAt_succ, ↓arun_skip, ↓arun_region, ↓arun_seq, ↓arun_cond, ↓arun_block, ↓arun_loop, ↓arun_exit, ↓arun_ret, aops_nil, aops_cons, aops_cons_guard, ↓putA_some, ↓putA_none, ↓aop_move, ↓aop_assign, ↓aop_pick, ↓aop_alloc, ↓aop_box, ↓aop_build, ↓aop_buildSlice, ↓aop_load, ↓aop_store, ↓aop_nilCheck, ↓aop_binOp, ↓aop_unOp, ↓aop_convert, ↓aop_makeSlice, ↓aop_fieldAddr, ↓aop_field, ↓aop_indexAddr, ↓aop_index, ↓aop_lookup, ↓aop_mapUpdate, ↓aop_insert, ↓aop_extract, ↓aop_callB, ↓aop_callF, ↓aop_callT, ↓aop_makeFunc, ↓aop_makeMap, ↓aop_slice, ↓aevs_nil, ↓aevs_cons, ↓evP_nil, ↓evP_cons, ↓aevO_none, ↓aevO_some, ↓reduceIte, reduceCtorEq, Nat.reduceEqDiff, Nat.reduceAdd, Nat.reduceLT, Nat.reduceSub, Nat.reduceMul, Nat.reduceLeDiff, if_true, if_false, if_pos, if_neg, s12c, Iss, hx, hy, h41, h40]
    try rfl
theorem i12e {a : Code} (h : loopOf 4 Try.f12 = some a) {i : Nat} : roundA Try.cfg 12 iter (call Try.cfg) 4 a (s12c L i L.length) = some (.exit 4, s12b L i) := by
  cases h
  simp -implicitDefEqProofs (maxSteps := 1000000) (disch := omega) only [push_cast, ↓dstAt_zero, ↓dstAt_succ, ↓arun_skip, ↓arun_region, ↓arun_seq, ↓arun_cond, ↓arun_block, ↓arun_loop, ↓arun_exit, ↓arun_ret, aops_nil, aops_cons, aops_cons_guard, ↓putA_some, ↓putA_none, ↓aop_move, ↓aop_assign, ↓aop_pick, ↓aop_alloc, ↓aop_box, ↓aop_build, ↓aop_buildSlice, ↓aop_load, ↓aop_store, ↓aop_nilCheck, ↓aop_binOp, ↓aop_unOp, ↓aop_convert, ↓aop_makeSlice, ↓aop_fieldAddr, ↓aop_field, ↓aop_indexAddr, ↓aop_index, ↓aop_lookup, ↓aop_mapUpdate, ↓aop_insert, ↓aop_extract, ↓aop_callB, ↓aop_callF, ↓aop_callT, ↓aop_makeFunc, ↓aop_makeMap, ↓aop_slice, ↓aevs_nil, ↓aevs_cons, ↓evP_nil, ↓evP_cons, ↓aevO_none, ↓aevO_some, ↓reduceIte, reduceCtorEq, Nat.reduceEqDiff, Nat.reduceAdd, Nat.reduceLT, Nat.reduceSub, Nat.reduceMul, Nat.reduceLeDiff, if_true, if_false, if_pos, if_neg, s12b, s12c, Iss, Int.lt_irrefl]
theorem inner12 {a : Code} (h : loopOf 4 Try.f12 = some a) {i : Nat} (hi : i < L.length) : iter (roundA Try.cfg 12 iter (call Try.cfg) 4 a) (s12c L i 0) = some (if allG L i then (.exit 4, s12b L i) else (.ret, [(2, .v (.bool false))], [])) :=
  iter_all (S := fun k => s12c L i k) (q := fun k => decide (mulP (gt L i) (gt L k) ∈ L)) (fun k hk hq => by have := i12 hL hs hok h hi hk; rw [if_pos hq] at this; exact this)
    (fun k hk hq => by have := i12 hL hs hok h hi hk; rw [if_neg (by rw [hq]; simp)] at this; exact this) (i12e hL hs hok h) (by simp) (by simp) L.length 0 (by omega)
theorem o12 {a : Code} (h : loopOf 2 Try.f12 = some a) {i : Nat} (hi : i < L.length) : roundA Try.cfg 12 iter (call Try.cfg) 2 a (s12b L i) = some (if allG L i = true then (.normal, s12b L (i + 1)) else (.ret, [(2, .v (.bool false))], [])) := by
  cases h4 : loopOf 4 Try.f12 with
  | none => cases h4
  | some a4 =>
    have hH := inner12 hL hs hok h4 hi
    cases h
    cases h4
    simp only [s12b, s12c, Is, Iss, Int.natCast_zero] at hH
    cases hg : allG L i with
    | true =>
      rw [hg, if_pos rfl] at hH
      simp -implicitDefEqProofs (maxSteps := 1000000) (disch := omega) only [push_cast, ↓dstAt_zero, ↓dstAt_succ, ↓arun_skip, ↓arun_region, ↓arun_seq, ↓arun_cond, ↓arun_block, ↓arun_loop, ↓arun_exit, ↓arun_ret, aops_nil, aops_cons, aops_cons_guard, ↓putA_some, ↓putA_none, ↓aop_move, ↓aop_assign, ↓aop_pick, ↓aop_alloc, ↓aop_box, ↓aop_build, ↓aop_buildSlice, ↓aop_load, ↓aop_store, ↓aop_nilCheck, ↓aop_binOp, ↓aop_unOp, ↓aop_convert, ↓aop_makeSlice, ↓aop_fieldAddr, ↓aop_field, ↓aop_indexAddr, ↓aop_index, ↓aop_lookup, ↓aop_mapUpdate, ↓aop_insert, ↓aop_extract, ↓aop_callB, ↓aop_callF, ↓aop_callT, ↓aop_makeFunc, ↓aop_makeMap, ↓aop_slice, ↓aevs_nil, ↓aevs_cons, ↓evP_nil, ↓evP_cons, ↓aevO_none, ↓aevO_some, ↓reduceIte, reduceCtorEq, Nat.reduceEqDiff, Nat.reduceAdd, Nat.reduceLT, Nat.reduceSub, Nat.reduceMul, Nat.reduceLeDiff, if_true, if_false, if_pos, if_neg, s12b, Iss, hH]
      try rfl
    | false =>
      rw [hg, if_neg (by simp)] at hH
      simp -implicitDefEqProofs (maxSteps := 1000000) (disch := omega) only [push_cast, ↓dstAt_zero, ↓dstAt_succ, ↓arun_skip, ↓arun_region, ↓arun_seq, ↓arun_cond, ↓arun_block, ↓arun_loop, ↓arun_exit, ↓arun_ret, aops_nil, aops_cons, aops_cons_guard, ↓putA_some, ↓putA_none, ↓aop_move, ↓aop_assign, ↓aop_pick, ↓aop_alloc, ↓aop_box, ↓aop_build, ↓aop_buildSlice, ↓aop_load, ↓aop_store, ↓aop_nilCheck, ↓aop_binOp, ↓aop_unOp, ↓aop_convert, ↓aop_makeSlice, ↓aop_fieldAddr, ↓aop_field, ↓aop_indexAddr, ↓aop_index, ↓aop_lookup, ↓aop_mapUpdate, ↓aop_insert, ↓aop_extract, ↓aop_callB, ↓aop_callF, ↓aop_callT, ↓aop_makeFunc, ↓aop_makeMap, ↓aop_slice, ↓aevs_nil, ↓aevs_cons, ↓evP_nil, ↓evP_cons, ↓aevO_none, ↓aevO_some, ↓reduceIte, reduceCtorEq, Nat.reduceEqDiff, Nat.reduceAdd, Nat.reduceLT, Nat.reduceSub, Nat.reduceMul, Nat.reduceLeDiff, if_true, if_false, if_pos, if_neg, s12b, Iss, hH]
      try rfl
theorem o12e {a : Code} (h : loopOf 2 Try.f12 = some a) : roundA Try.cfg 12 iter (call Try.cfg) 2 a (s12b L L.length) = some (.exit 2, [], []) := by
  cases h
  simp -implicitDefEqProofs (maxSteps := 1000000) (disch := omega) only [push_cast, ↓dstAt_zero, ↓dstAt_succ, ↓arun_skip, ↓arun_region, ↓arun_seq, ↓arun_cond, ↓arun_block, ↓arun_loop, ↓arun_exit, ↓arun_ret, aops_nil, aops_cons, aops_cons_guard, ↓putA_some, ↓putA_none, ↓aop_move, ↓aop_assign, ↓aop_pick, ↓aop_alloc, ↓aop_box, ↓aop_build, ↓aop_buildSlice, ↓aop_load, ↓aop_store, ↓aop_nilCheck, ↓aop_binOp, ↓aop_unOp, ↓aop_convert, ↓aop_makeSlice, ↓aop_fieldAddr, ↓aop_field, ↓aop_indexAddr, ↓aop_index, ↓aop_lookup, ↓aop_mapUpdate, ↓aop_insert, ↓aop_extract, ↓aop_callB, ↓aop_callF, ↓aop_callT, ↓aop_makeFunc, ↓aop_makeMap, ↓aop_slice, ↓aevs_nil, ↓aevs_cons, ↓evP_nil, ↓evP_cons, ↓aevO_none, ↓aevO_some, ↓reduceIte, reduceCtorEq, Nat.reduceEqDiff, Nat.reduceAdd, Nat.reduceLT, Nat.reduceSub, Nat.reduceMul, Nat.reduceLeDiff, if_true, if_false, if_pos, if_neg, s12b, Iss, Int.lt_irrefl]
theorem outer12 {a : Code} (h : loopOf 2 Try.f12 = some a) : iter (roundA Try.cfg 12 iter (call Try.cfg) 2 a) (s12b L 0) = some (if (List.range' 0 L.length).all (allG L) then (.exit 2, [], []) else (.ret, [(2, .v (.bool false))], [])) :=
  iter_all (S := fun i => s12b L i) (q := allG L) (fun i hi hq => by have := o12 hL hs hok h hi; rw [if_pos hq] at this; exact this)
    (fun i hi hq => by have := o12 hL hs hok h hi; rw [if_neg (by rw [hq]; simp)] at this; exact this) (o12e hL hs hok h) (by simp) (by simp) L.length 0 (by omega)
end
theorem call12 : call Try.cfg 12 [.sl false L.length (L.map Is)] [] = some (.v (.bool (isG L)), []) := by
  refine call_step ?_
  cases h0 : loopOf 0 Try.f12 with
  | none => cases h0
  | some a0 =>
  cases h2 : loopOf 2 Try.f12 with
  | none => cases h2
  | some a2 =>
    by_cases hne : L = []
    · subst hne
      have e : isG [] = false := by simp [isG]
      rw [e]
      simp -implicitDefEqProofs (maxSteps := 1000000) (disch := omega) only [stepA, bodyA, Try.f12, push_cast, ↓dstAt_zero, ↓dstAt_succ, ↓arun_skip, ↓arun_region, ↓arun_seq, ↓arun_cond, ↓arun_block, ↓arun_loop, ↓arun_exit, ↓arun_ret, aops_nil, aops_cons, aops_cons_guard, ↓putA_some, ↓putA_none, ↓aop_move, ↓aop_assign, ↓aop_pick, ↓aop_alloc, ↓aop_box, ↓aop_build, ↓aop_buildSlice, ↓aop_load, ↓aop_store, ↓aop_nilCheck, ↓aop_binOp, ↓aop_unOp, ↓aop_convert, ↓aop_makeSlice, ↓aop_fieldAddr, ↓aop_field, ↓aop_indexAddr, ↓aop_index, ↓aop_lookup, ↓aop_mapUpdate, ↓aop_insert, ↓aop_extract, ↓aop_callB, ↓aop_callF, ↓aop_callT, ↓aop_makeFunc, ↓aop_makeMap, ↓aop_slice, ↓aevs_nil, ↓aevs_cons, ↓evP_nil, ↓evP_cons, ↓aevO_none, ↓aevO_some, ↓reduceIte, reduceCtorEq, Nat.reduceEqDiff, Nat.reduceAdd, Nat.reduceLT, Nat.reduceSub, Nat.reduceMul, Nat.reduceLeDiff, if_true, if_false, if_pos, if_neg, Int.natCast_zero]
    have hpos : 0 < L.length := List.length_pos_iff.2 hne
    have hx := gt_some hpos
    have l0 := hs _ (List.mem_of_getElem? hx)
    have v0 := call24u l0
    have hokv : okG L 0 = validL (gt L 0) := by simp [okG]
    have hr : List.range' 0 L.length = 0 :: List.range' 1 (L.length - 1) := by
      obtain ⟨n, hn⟩ : ∃ n, L.length = n + 1 := ⟨L.length - 1, by omega⟩
      rw [hn, List.range'_succ]; rfl
    cases hv : validL (gt L 0) with
    | false =>
      rw [hv] at v0
      have e : isG L = false := by
        unfold isG
        rw [hr, List.all_cons, hokv, hv]
        simp
      rw [e]
      generalize gt L 0 = x at *
      simp -implicitDefEqProofs (maxSteps := 1000000) (disch := omega) only [stepA, bodyA, Try.f12, push_cast, ↓dstAt_zero, ↓dstAt_succ, ↓arun_skip, ↓arun_region, ↓arun_seq, ↓arun_cond, ↓arun_block, ↓arun_loop, ↓arun_exit, ↓arun_ret, aops_nil, aops_cons, aops_cons_guard, ↓putA_some, ↓putA_none, ↓aop_move, ↓aop_assign, ↓aop_pick, ↓aop_alloc, ↓aop_box, ↓aop_build, ↓aop_buildSlice, ↓aop_load, ↓aop_store, ↓aop_nilCheck, ↓aop_binOp, ↓aop_unOp, ↓aop_convert, ↓aop_makeSlice, ↓aop_fieldAddr, ↓aop_field, ↓aop_indexAddr, ↓aop_index, ↓aop_lookup, ↓aop_mapUpdate, ↓aop_insert, ↓aop_extract, ↓aop_callB, ↓aop_callF, ↓aop_callT, ↓aop_makeFunc, ↓aop_makeMap, ↓aop_slice, ↓aevs_nil, ↓aevs_cons, ↓evP_nil, ↓evP_cons, ↓aevO_none, ↓aevO_some, ↓reduceIte, reduceCtorEq, Nat.reduceEqDiff, Nat.reduceAdd, Nat.reduceLT, Nat.reduceSub, Nat.reduceMul, Nat.reduceLeDiff, if_true, if_false, if_pos, if_neg, hx, v0]
    | true =>
      rw [hv] at v0
      have h6 := valid_len hv
      have h38 := call38u (n := (gt L 0).length) (by omega)
      have hil := idP_length (gt L 0).length
      have h37 := call37u (A := gt L 0) (C := idP (gt L 0).length) (by omega) (by omega)
      rw [hil] at h37
      by_cases hid : gt L 0 = idP (gt L 0).length
      · rw [decide_eq_true hid] at h37
        have hn1 : L.length - 1 + 1 = L.length := by omega
        have hH := iter_all (F := roundA Try.cfg 12 iter (call Try.cfg) 0 a0) (S := fun i => s12 L (i + 1)) (q := fun i => okG L (i + 1)) (n := L.length - 1) (rt := (.exit 0, [(0, Iss L)], [])) (rf := (.ret, [(2, .v (.bool false))], [])) (fun i hi hq => by
              have := r12 hL hs h0 (j := i) (by omega)
              rw [if_pos hq] at this
              exact this) (fun i hi hq => by
              have := r12 hL hs h0 (j := i) (by omega)
              rw [if_neg (by rw [hq]; simp)] at this
              exact this) (by rw [hn1]; exact r12e hL hs h0) (by simp) (by simp) (L.length - 1) 0 (by omega)
        have hall : (List.range' 0 L.length).all (okG L) = (List.range' 0 (L.length - 1)).all fun i => okG L (i + 1) := by
          rw [hr, List.all_cons, hokv, hv, Bool.true_and]
          apply Bool.eq_iff_iff.2
          simp only [List.all_eq_true, List.mem_range', Nat.one_mul]
          constructor
          · rintro h x ⟨i, h1, rfl⟩
            exact h _ ⟨i, h1, by omega⟩
          · rintro h x ⟨i, h1, rfl⟩
            rw [Nat.add_comm]
            exact h i ⟨i, h1, by omega⟩
        have eG : isG L = (((List.range' 0 (L.length - 1)).all fun i => okG L (i + 1)) && (List.range' 0 L.length).all (allG L)) := by
          unfold isG
          rw [hall, decide_eq_true hid, decide_eq_false hne]
          simp
        rw [eG]
        simp only [s12, Iss, Nat.zero_add, Int.natCast_one] at hH
        cases h0
        cases hp1 : (List.range' 0 (L.length - 1)).all fun i => okG L (i + 1) with
        | false =>
          rw [hp1, if_neg (by simp)] at hH
          clear hid hokv hv eG hall hp1
          generalize gt L 0 = x at *
          simp -implicitDefEqProofs (maxSteps := 1000000) (disch := omega) only [stepA, bodyA, Try.f12, push_cast, ↓dstAt_zero, ↓dstAt_succ, ↓arun_skip, ↓arun_region, ↓arun_seq, ↓arun_cond, ↓arun_block, ↓arun_loop, ↓arun_exit, ↓arun_ret, aops_nil, aops_cons, aops_cons_guard, ↓putA_some, ↓putA_none, ↓aop_move, ↓aop_assign, ↓aop_pick, ↓aop_alloc, ↓aop_box, ↓aop_build, ↓aop_buildSlice, ↓aop_load, ↓aop_store, ↓aop_nilCheck, ↓aop_binOp, ↓aop_unOp, ↓aop_convert, ↓aop_makeSlice, ↓aop_fieldAddr, ↓aop_field, ↓aop_indexAddr, ↓aop_index, ↓aop_lookup, ↓aop_mapUpdate, ↓aop_insert, ↓aop_extract, ↓aop_callB, ↓aop_callF, ↓aop_callT, ↓aop_makeFunc, ↓aop_makeMap, ↓aop_slice, ↓aevs_nil, ↓aevs_cons, ↓evP_nil, ↓evP_cons, ↓aevO_none, ↓aevO_some, ↓reduceIte, reduceCtorEq, Nat.reduceEqDiff, Nat.reduceAdd, Nat.reduceLT, Nat.reduceSub, Nat.reduceMul, Nat.reduceLeDiff, if_true, if_false, if_pos, if_neg, hx, v0, h38, h37, hH, Bool.false_and]
        | true =>
          rw [hp1, if_pos rfl] at hH
          have hok : ∀ j, j < L.length → okG L j = true := fun j hj => List.all_eq_true.1 (hall.trans hp1) j (by simp [List.mem_range']; omega)
          have hO := outer12 hL hs hok h2
          cases h2
          simp only [s12b, Iss, Int.natCast_zero] at hO
          clear hid hokv hv eG hall hp1 hok
          generalize gt L 0 = x at *
          cases hall2 : (List.range' 0 L.length).all (allG L) with
          | true =>
            rw [hall2, if_pos rfl] at hO
            simp -implicitDefEqProofs (maxSteps := 1000000) (disch := omega) only [stepA, bodyA, Try.f12, push_cast, ↓dstAt_zero, ↓dstAt_succ, ↓arun_skip, ↓arun_region, ↓arun_seq, ↓arun_cond, ↓arun_block, ↓arun_loop, ↓arun_exit, ↓arun_ret, aops_nil, aops_cons, aops_cons_guard, ↓putA_some, ↓putA_none, ↓aop_move, ↓aop_assign, ↓aop_pick, ↓aop_alloc, ↓aop_box, ↓aop_build, ↓aop_buildSlice, ↓aop_load, ↓aop_store, ↓aop_nilCheck, ↓aop_binOp, ↓aop_unOp, ↓aop_convert, ↓aop_makeSlice, ↓aop_fieldAddr, ↓aop_field, ↓aop_indexAddr, ↓aop_index, ↓aop_lookup, ↓aop_mapUpdate, ↓aop_insert, ↓aop_extract, ↓aop_callB, ↓aop_callF, ↓aop_callT, ↓aop_makeFunc, ↓aop_makeMap, ↓aop_slice, ↓aevs_nil, ↓aevs_cons, ↓evP_nil, ↓evP_cons, ↓aevO_none, ↓aevO_some, ↓reduceIte, reduceCtorEq, Nat.reduceEqDiff, Nat.reduceAdd, Nat.reduceLT, Nat.reduceSub, Nat.reduceMul, Nat.reduceLeDiff, if_true, if_false, if_pos, if_neg, hx, v0, h38, h37, hH, hO]
          | false =>
            rw [hall2, if_neg (by simp)] at hO
            simp -implicitDefEqProofs (maxSteps := 1000000) (disch := omega) only [stepA, bodyA, Try.f12, push_cast, ↓dstAt_zero, ↓dstAt_succ, ↓arun_skip, ↓arun_region, ↓arun_seq, ↓arun_cond, ↓arun_block, ↓arun_loop, ↓arun_exit, ↓arun_ret, aops_nil, aops_cons, aops_cons_guard, ↓putA_some, ↓putA_none, ↓aop_move, ↓aop_assign, ↓aop_pick, ↓aop_alloc, ↓aop_box, ↓aop_build, ↓aop_buildSlice, ↓aop_load, ↓aop_store, ↓aop_nilCheck, ↓aop_binOp, ↓aop_unOp, ↓aop_convert, ↓aop_makeSlice, ↓aop_fieldAddr, ↓aop_field, ↓aop_indexAddr, ↓aop_index, ↓aop_lookup, ↓aop_mapUpdate, ↓aop_insert, ↓aop_extract, ↓aop_callB, ↓aop_callF, ↓aop_callT, ↓aop_makeFunc, ↓aop_makeMap, ↓aop_slice, ↓aevs_nil, ↓aevs_cons, ↓evP_nil, ↓evP_cons, ↓aevO_none, ↓aevO_some, ↓reduceIte, reduceCtorEq, Nat.reduceEqDiff, Nat.reduceAdd, Nat.reduceLT, Nat.reduceSub, Nat.reduceMul, Nat.reduceLeDiff, if_true, if_false, if_pos, if_neg, hx, v0, h38, h37, hH, hO]
      · rw [decide_eq_false hid] at h37
        have e : isG L = false := by
          unfold isG
          rw [decide_eq_false hid]
          simp
        rw [e]
        clear hid e hokv hv
        generalize gt L 0 = x at *
        simp -implicitDefEqProofs (maxSteps := 1000000) (disch := omega) only [stepA, bodyA, Try.f12, push_cast, ↓dstAt_zero, ↓dstAt_succ, ↓arun_skip, ↓arun_region, ↓arun_seq, ↓arun_cond, ↓arun_block, ↓arun_loop, ↓arun_exit, ↓arun_ret, aops_nil, aops_cons, aops_cons_guard, ↓putA_some, ↓putA_none, ↓aop_move, ↓aop_assign, ↓aop_pick, ↓aop_alloc, ↓aop_box, ↓aop_build, ↓aop_buildSlice, ↓aop_load, ↓aop_store, ↓aop_nilCheck, ↓aop_binOp, ↓aop_unOp, ↓aop_convert, ↓aop_makeSlice, ↓aop_fieldAddr, ↓aop_field, ↓aop_indexAddr, ↓aop_index, ↓aop_lookup, ↓aop_mapUpdate, ↓aop_insert, ↓aop_extract, ↓aop_callB, ↓aop_callF, ↓aop_callT, ↓aop_makeFunc, ↓aop_makeMap, ↓aop_slice, ↓aevs_nil, ↓aevs_cons, ↓evP_nil, ↓evP_cons, ↓aevO_none, ↓aevO_some, ↓reduceIte, reduceCtorEq, Nat.reduceEqDiff, Nat.reduceAdd, Nat.reduceLT, Nat.reduceSub, Nat.reduceMul, Nat.reduceLeDiff, if_true, if_false, if_pos, if_neg, hx, v0, h38, h37]
end
end Go.Proofs

/- identity, product, Mod. -/
set_option linter.unusedVariables false
set_option linter.unusedSimpArgs false
set_option linter.unusedSectionVars false
namespace Go.Proofs
open Go.AI
set_option maxRecDepth 20000
theorem call15 {n m : Int} (h0 : 0 < m) (h1 : m ≤ 1000) (hn : -9223372036854775808 ≤ n) (hn' : n < 9223372036854775808) : call Try.cfg 15 [I n, I m] [] = some (I (n % m), []) := by
  refine call_step ?_
  have e1 : n.tmod m = n % m ∨ n.tmod m = n % m - m := by
    by_cases h : 0 ≤ n
    · left; rw [Int.tmod_eq_emod_of_nonneg h]
    · rw [Int.tmod_eq_emod]
      split
      · left; omega
      · right; omega
  have hm := Int.emod_nonneg n (Int.ne_of_gt h0)
  have hm' := Int.emod_lt_of_pos n h0
  by_cases hs : n.tmod m < 0
  · have e2 : n.tmod m + m = n % m := by omega
    simp -implicitDefEqProofs (disch := omega) only [stepA, bodyA, Try.cfgO, Try.sh15, Try.func15, Try.f15, push_cast, ↓dstAt_zero, ↓dstAt_succ, ↓arun_skip, ↓arun_region, ↓arun_seq, ↓arun_cond, ↓arun_block, ↓arun_loop, ↓arun_exit, ↓arun_ret, aops_nil, aops_cons, aops_cons_guard, ↓putA_some, ↓putA_none, ↓aop_move, ↓aop_assign, ↓aop_pick, ↓aop_alloc, ↓aop_box, ↓aop_build, ↓aop_buildSlice, ↓aop_load, ↓aop_store, ↓aop_nilCheck, ↓aop_binOp, ↓aop_unOp, ↓aop_convert, ↓aop_makeSlice, ↓aop_fieldAddr, ↓aop_field, ↓aop_indexAddr, ↓aop_index, ↓aop_lookup, ↓aop_mapUpdate, ↓aop_insert, ↓aop_extract, ↓aop_callB, ↓aop_callF, ↓aop_callT, ↓aop_makeFunc, ↓aop_makeMap, ↓aop_slice, ↓aevs_nil, ↓aevs_cons, ↓evP_nil, ↓evP_cons, ↓aevO_none, ↓aevO_some, ↓reduceIte, reduceCtorEq, Nat.reduceEqDiff, Nat.reduceAdd, Nat.reduceLT, Nat.reduceSub, Nat.reduceMul, Nat.reduceLeDiff, if_true, if_false, if_pos, if_neg, abin_rem, e2]
  · have e2 : n.tmod m = n % m := by omega
    rw [e2] at hs
    simp -implicitDefEqProofs (disch := omega) only [stepA, bodyA, Try.cfgO, Try.sh15, Try.func15, Try.f15, push_cast, ↓dstAt_zero, ↓dstAt_succ, ↓arun_skip, ↓arun_region, ↓arun_seq, ↓arun_cond, ↓arun_block, ↓arun_loop, ↓arun_exit, ↓arun_ret, aops_nil, aops_cons, aops_cons_guard, ↓putA_some, ↓putA_none, ↓aop_move, ↓aop_assign, ↓aop_pick, ↓aop_alloc, ↓aop_box, ↓aop_build, ↓aop_buildSlice, ↓aop_load, ↓aop_store, ↓aop_nilCheck, ↓aop_binOp, ↓aop_unOp, ↓aop_convert, ↓aop_makeSlice, ↓aop_fieldAddr, ↓aop_field, ↓aop_indexAddr, ↓aop_index, ↓aop_lookup, ↓aop_mapUpdate, ↓aop_insert, ↓aop_extract, ↓aop_callB, ↓aop_callF, ↓aop_callT, ↓aop_makeFunc, ↓aop_makeMap, ↓aop_slice, ↓aevs_nil, ↓aevs_cons, ↓evP_nil, ↓evP_cons, ↓aevO_none, ↓aevO_some, ↓reduceIte, reduceCtorEq, Nat.reduceEqDiff, Nat.reduceAdd, Nat.reduceLT, Nat.reduceSub, Nat.reduceMul, Nat.reduceLeDiff, if_true, if_false, if_pos, if_neg, abin_rem, e2]

end Go.Proofs

/- permutation. -/
set_option linter.unusedVariables false
set_option linter.unusedSimpArgs false
set_option linter.unusedSectionVars false
namespace Go.Proofs
open Go.AI
set_option maxRecDepth 20000
theorem call15u {n m : Int} (h0 : 0 < m) (h1 : m ≤ 1000) (hn : -9223372036854775808 ≤ n) (hn' : n < 9223372036854775808) : call Try.cfg 15 [.v (.int .i64 n), .v (.int .i64 m)] [] = some (.v (.int .i64 (n % m)), []) := call15 h0 h1 hn hn'
/-- One place more. -/
def putP (o : List Int) (k : Nat) (i : Int) : List Int := o.take k ++ [i] ++ o.drop k
def st16 (A : List Int) (n : Nat) (o : List Int) (i : Nat) : St := ([(0, Is A), (1, I n), (5, Is o), (6, I i)], [.cells true 0 []])
section
variable {a : Code} (h : loopOf 0 Try.f16 = some a) {A : List Int} {n : Nat} {o : List Int} {i : Nat} (hA : A.length ≤ 1000) (hn : n ≤ 6) (hi : i < n) (ho : o.length = i)
include h hA hn hi ho
theorem r16b (hx : A.length ≤ i) : roundA Try.cfg 16 iter (call Try.cfg) 0 a (st16 A n o i) = some (.normal, st16 A n (putP o 0 i) (i + 1)) := by
  cases h
  simp -implicitDefEqProofs (maxSteps := 1000000) (disch := omega) only [push_cast, ↓dstAt_zero, ↓dstAt_succ, ↓arun_skip, ↓arun_region, ↓arun_seq, ↓arun_cond, ↓arun_block, ↓arun_loop, ↓arun_exit, ↓arun_ret, aops_nil, aops_cons, aops_cons_guard, ↓putA_some, ↓putA_none, ↓aop_move, ↓aop_assign, ↓aop_pick, ↓aop_alloc, ↓aop_box, ↓aop_build, ↓aop_buildSlice, ↓aop_load, ↓aop_store, ↓aop_nilCheck, ↓aop_binOp, ↓aop_unOp, ↓aop_convert, ↓aop_makeSlice, ↓aop_fieldAddr, ↓aop_field, ↓aop_indexAddr, ↓aop_index, ↓aop_lookup, ↓aop_mapUpdate, ↓aop_insert, ↓aop_extract, ↓aop_callB, ↓aop_callF, ↓aop_callT, ↓aop_makeFunc, ↓aop_makeMap, ↓aop_slice, ↓aevs_nil, ↓aevs_cons, ↓evP_nil, ↓evP_cons, ↓aevO_none, ↓aevO_some, ↓reduceIte, reduceCtorEq, Nat.reduceEqDiff, Nat.reduceAdd, Nat.reduceLT, Nat.reduceSub, Nat.reduceMul, Nat.reduceLeDiff, if_true, if_false, if_pos, if_neg, st16, putP, List.length_cons]
  have e : List.take (1 + o.length) ((i : Int) :: o) = (i : Int) :: o := List.take_of_length_le (by simp; omega)
  rw [e, Nat.add_comm 1]
  try rfl
theorem r16a {x : Int} (hlt : i < A.length) (hx : A[i]? = some x) (h1 : -9223372036854775808 ≤ x) (h2 : x < 9223372036854775808) {k : Nat} (hk : x % ((i : Int) + 1) = k) (hk' : k ≤ i) : roundA Try.cfg 16 iter (call Try.cfg) 0 a (st16 A n o i) = some (.normal, st16 A n (putP o k i) (i + 1)) := by
  cases h
  have h15 := call15u (n := x) (m := (i : Int) + 1) (by omega) (by omega) h1 h2
  rw [hk] at h15
  simp -implicitDefEqProofs (maxSteps := 1000000) (disch := omega) only [push_cast, ↓dstAt_zero, ↓dstAt_succ, ↓arun_skip, ↓arun_region, ↓arun_seq, ↓arun_cond, ↓arun_block, ↓arun_loop, ↓arun_exit, ↓arun_ret, aops_nil, aops_cons, aops_cons_guard, ↓putA_some, ↓putA_none, ↓aop_move, ↓aop_assign, ↓aop_pick, ↓aop_alloc, ↓aop_box, ↓aop_build, ↓aop_buildSlice, ↓aop_load, ↓aop_store, ↓aop_nilCheck, ↓aop_binOp, ↓aop_unOp, ↓aop_convert, ↓aop_makeSlice, ↓aop_fieldAddr, ↓aop_field, ↓aop_indexAddr, ↓aop_index, ↓aop_lookup, ↓aop_mapUpdate, ↓aop_insert, ↓aop_extract, ↓aop_callB, ↓aop_callF, ↓aop_callT, ↓aop_makeFunc, ↓aop_makeMap, ↓aop_slice, ↓aevs_nil, ↓aevs_cons, ↓evP_nil, ↓evP_cons, ↓aevO_none, ↓aevO_some, ↓reduceIte, reduceCtorEq, Nat.reduceEqDiff, Nat.reduceAdd, Nat.reduceLT, Nat.reduceSub, Nat.reduceMul, Nat.reduceLeDiff, if_true, if_false, if_pos, if_neg, Try.sh15, st16, putP, hx, h15]
  have e1 : List.take k (List.take k o) = List.take k o := by rw [List.take_take, Nat.min_self]
  have e2 : List.take (k + 1) (List.take k o ++ [(i : Int)]) = List.take k o ++ [(i : Int)] := List.take_of_length_le (by simp; omega)
  have e3 : List.take (o.length - k) (List.drop k o) = List.drop k o := List.take_of_length_le (by simp)
  have e4 : List.take (k + 1 + (o.length - k)) (List.take k o ++ [(i : Int)] ++ List.drop k o) = List.take k o ++ [(i : Int)] ++ List.drop k o := List.take_of_length_le (by simp; omega)
  rw [e1, e2, e3, e4, Nat.min_eq_left (by omega)]
  try rfl
end
theorem r16c {a : Code} (h : loopOf 0 Try.f16 = some a) {A : List Int} {n : Nat} {o : List Int} (hn : n ≤ 6) : roundA Try.cfg 16 iter (call Try.cfg) 0 a (st16 A n o n) = some (.exit 0, [(5, Is o)], [.cells true 0 []]) := by
  cases h
  simp -implicitDefEqProofs (maxSteps := 1000000) (disch := omega) only [push_cast, ↓dstAt_zero, ↓dstAt_succ, ↓arun_skip, ↓arun_region, ↓arun_seq, ↓arun_cond, ↓arun_block, ↓arun_loop, ↓arun_exit, ↓arun_ret, aops_nil, aops_cons, aops_cons_guard, ↓putA_some, ↓putA_none, ↓aop_move, ↓aop_assign, ↓aop_pick, ↓aop_alloc, ↓aop_box, ↓aop_build, ↓aop_buildSlice, ↓aop_load, ↓aop_store, ↓aop_nilCheck, ↓aop_binOp, ↓aop_unOp, ↓aop_convert, ↓aop_makeSlice, ↓aop_fieldAddr, ↓aop_field, ↓aop_indexAddr, ↓aop_index, ↓aop_lookup, ↓aop_mapUpdate, ↓aop_insert, ↓aop_extract, ↓aop_callB, ↓aop_callF, ↓aop_callT, ↓aop_makeFunc, ↓aop_makeMap, ↓aop_slice, ↓aevs_nil, ↓aevs_cons, ↓evP_nil, ↓evP_cons, ↓aevO_none, ↓aevO_some, ↓reduceIte, reduceCtorEq, Nat.reduceEqDiff, Nat.reduceAdd, Nat.reduceLT, Nat.reduceSub, Nat.reduceMul, Nat.reduceLeDiff, if_true, if_false, if_pos, if_neg, st16]
/-- The permutation that a list makes: `k` rounds from place `i`. -/
def permS (A : List Int) : Nat → List Int
  | 0 => []
  | i + 1 => putP (permS A i) (if i < A.length then (A.getD i 0 % ((i : Int) + 1)).toNat else 0) i
theorem permS_length (A : List Int) : ∀ i, (permS A i).length = i
  | 0 => rfl
  | i + 1 => by
    have h := permS_length A i
    simp only [permS, putP, List.length_append, List.length_take, List.length_drop, h, List.length_cons, List.length_nil]
    split
    · have h1 := Int.emod_nonneg (A.getD i 0) (show (i : Int) + 1 ≠ 0 by omega)
      have h2 := Int.emod_lt_of_pos (A.getD i 0) (show (0 : Int) < (i : Int) + 1 by omega)
      omega
    · omega
theorem call16 {A : List Int} {n : Nat} (hA : A.length ≤ 1000) (hn : n ≤ 6) (hr : ∀ x ∈ A, -9223372036854775808 ≤ x ∧ x < 9223372036854775808) : call Try.cfg 16 [Is A, I n] [] = some (Is (permS A n), []) := by
  refine call_step ?_
  cases hl : loopOf 0 Try.f16 with
  | none => cases hl
  | some a =>
    have hH := iter_run (F := roundA Try.cfg 16 iter (call Try.cfg) 0 a) (S := fun i => st16 A n (permS A i) i) (n := n) (fun i hi => by
      have ho := permS_length A i
      by_cases hlt : i < A.length
      · have hx : A[i]? = some (A.getD i 0) := by simp [hlt]
        have hm := hr _ (List.mem_of_getElem? hx)
        have h1 := Int.emod_nonneg (A.getD i 0) (show (i : Int) + 1 ≠ 0 by omega)
        have h2 := Int.emod_lt_of_pos (A.getD i 0) (show (0 : Int) < (i : Int) + 1 by omega)
        have := r16a (o := permS A i) hl hA hn hi ho hlt hx hm.1 hm.2 (k := (A.getD i 0 % ((i : Int) + 1)).toNat) (by omega) (by omega)
        rw [this]
        show _ = some (Ex.normal, st16 A n (permS A (i + 1)) (i + 1))
        simp only [permS, hlt, if_true]
      · have := r16b (o := permS A i) hl hA hn hi ho (by omega)
        rw [this]
        show _ = some (Ex.normal, st16 A n (permS A (i + 1)) (i + 1))
        simp only [permS, hlt, if_false]) (r16c hl hn) (by simp) n 0 (by omega)
    cases hl
    have e0 : permS A 0 = [] := rfl
    simp only [st16, Is, Int.natCast_zero, e0, List.length_nil, List.map_nil] at hH
    simp -implicitDefEqProofs (maxSteps := 1000000) (disch := omega) only [stepA, bodyA, Try.cfgO, Try.sh16, Try.func16, Try.f16, push_cast, ↓dstAt_zero, ↓dstAt_succ, ↓arun_skip, ↓arun_region, ↓arun_seq, ↓arun_cond, ↓arun_block, ↓arun_loop, ↓arun_exit, ↓arun_ret, aops_nil, aops_cons, aops_cons_guard, ↓putA_some, ↓putA_none, ↓aop_move, ↓aop_assign, ↓aop_pick, ↓aop_alloc, ↓aop_box, ↓aop_build, ↓aop_buildSlice, ↓aop_load, ↓aop_store, ↓aop_nilCheck, ↓aop_binOp, ↓aop_unOp, ↓aop_convert, ↓aop_makeSlice, ↓aop_fieldAddr, ↓aop_field, ↓aop_indexAddr, ↓aop_index, ↓aop_lookup, ↓aop_mapUpdate, ↓aop_insert, ↓aop_extract, ↓aop_callB, ↓aop_callF, ↓aop_callT, ↓aop_makeFunc, ↓aop_makeMap, ↓aop_slice, ↓aevs_nil, ↓aevs_cons, ↓evP_nil, ↓evP_cons, ↓aevO_none, ↓aevO_some, ↓reduceIte, reduceCtorEq, Nat.reduceEqDiff, Nat.reduceAdd, Nat.reduceLT, Nat.reduceSub, Nat.reduceMul, Nat.reduceLeDiff, if_true, if_false, if_pos, if_neg, hH]
end Go.Proofs

/- Plain laws of permutations: what is valid, products, the lists of `permS`. -/
set_option linter.unusedVariables false
namespace Go.Proofs
open Go.AI
theorem seenL_iff (n : Int) : ∀ (l : List Int) (bs : List Bool), n ≤ bs.length → (seenL n l bs = true ↔ (∀ x ∈ l, 0 ≤ x ∧ x < n ∧ bs.getD x.toNat false = false) ∧ l.Nodup)
  | [], bs, hn => by simp [seenL]
  | x :: r, bs, hn => by
    simp only [seenL]
    by_cases h1 : x < 0
    · rw [if_pos h1]
      constructor
      · intro h; cases h
      · rintro ⟨h, _⟩
        have := (h x (by simp)).1
        omega
    by_cases h2 : n ≤ x
    · rw [if_neg h1, if_pos h2]
      constructor
      · intro h; cases h
      · rintro ⟨h, _⟩
        have := (h x (by simp)).2.1
        omega
    rw [if_neg h1, if_neg h2]
    cases h3 : bs.getD x.toNat false with
    | true =>
      rw [if_pos rfl]
      constructor
      · intro h; cases h
      · rintro ⟨h, _⟩
        have := (h x (by simp)).2.2
        rw [h3] at this; cases this
    | false =>
      rw [if_neg (by simp), seenL_iff n r _ (by simpa using hn)]
      have hg : ∀ y : Int, 0 ≤ y → y < n → ((bs.set x.toNat true).getD y.toNat false = false ↔ (y ≠ x ∧ bs.getD y.toNat false = false)) := by
        intro y hy hy'
        by_cases e : y = x
        · subst e
          have : y.toNat < bs.length := by omega
          simp [List.getD_eq_getElem?_getD, List.getElem?_set_self, this]
        · have : x.toNat ≠ y.toNat := by omega
          simp only [List.getD_eq_getElem?_getD, List.getElem?_set_ne this, ne_eq, e, not_false_eq_true, true_and]
      constructor
      · rintro ⟨h, hd⟩
        refine ⟨fun y hy => ?_, ?_⟩
        · rcases List.mem_cons.1 hy with rfl | hy
          · exact ⟨by omega, by omega, h3⟩
          · have := h y hy
            exact ⟨this.1, this.2.1, ((hg y this.1 this.2.1).1 this.2.2).2⟩
        · refine List.nodup_cons.2 ⟨fun hx => ?_, hd⟩
          have := h x hx
          exact ((hg x this.1 this.2.1).1 this.2.2).1 rfl
      · rintro ⟨h, hd⟩
        have hd := List.nodup_cons.1 hd
        refine ⟨fun y hy => ?_, hd.2⟩
        have := h y (by simp [hy])
        exact ⟨this.1, this.2.1, (hg y this.1 this.2.1).2 ⟨fun e => hd.1 (e ▸ hy), this.2.2⟩⟩
theorem valid_iff (A : List Int) : validL A = true ↔ A.length ≤ 6 ∧ (∀ x ∈ A, 0 ≤ x ∧ x < A.length) ∧ A.Nodup := by
  unfold validL
  rw [Bool.and_eq_true, decide_eq_true_eq]
  have hz : ∀ k, [false, false, false, false, false, false].getD k false = false := by
    intro k
    rcases k with _ | _ | _ | _ | _ | _ | k <;> rfl
  constructor
  · rintro ⟨h1, h2⟩
    rw [seenL_iff _ _ _ (by simp; omega)] at h2
    exact ⟨h1, fun x hx => ⟨(h2.1 x hx).1, (h2.1 x hx).2.1⟩, h2.2⟩
  · rintro ⟨h1, h2, h3⟩
    refine ⟨h1, ?_⟩
    rw [seenL_iff _ _ _ (by simp; omega)]
    exact ⟨fun x hx => ⟨(h2 x hx).1, (h2 x hx).2, hz _⟩, h3⟩
theorem getD_mem {A : List Int} {i : Nat} (h : i < A.length) : A.getD i 0 ∈ A := by
  have : A.getD i 0 = A[i] := by simp [h]
  rw [this]; exact List.getElem_mem h
theorem getD_inj {A : List Int} (hd : A.Nodup) {i j : Nat} (hi : i < A.length) (hj : j < A.length) (h : A.getD i 0 = A.getD j 0) : i = j := by
  have e1 : A.getD i 0 = A[i] := by simp [hi]
  have e2 : A.getD j 0 = A[j] := by simp [hj]
  rw [e1, e2] at h
  rcases Nat.lt_trichotomy i j with hlt | he | hlt
  · exact absurd h (List.pairwise_iff_getElem.1 hd i j hi hj hlt)
  · exact he
  · exact absurd h.symm (List.pairwise_iff_getElem.1 hd j i hj hi hlt)
theorem mulP_getD {A C : List Int} {i : Nat} (h : i < A.length) : (mulP A C).getD i 0 = A.getD (C.getD i 0).toNat 0 := by simp [mulP, h]
theorem mulP_valid {A C : List Int} (hA : validL A = true) (hC : validL C = true) (hl : A.length = C.length) : validL (mulP A C) = true := by
  have vA := (valid_iff A).1 hA
  have vC := (valid_iff C).1 hC
  rw [valid_iff]
  refine ⟨by rw [mulP_length]; exact vA.1, fun x hx => ?_, ?_⟩
  · rw [mulP_length]
    simp only [mulP, List.mem_map, List.mem_range] at hx
    obtain ⟨j, hj, rfl⟩ := hx
    have := valid_range hC (i := j) (by omega)
    exact valid_range hA (by omega)
  · unfold mulP
    rw [List.Nodup, List.pairwise_map]
    refine List.Pairwise.imp_of_mem ?_ (List.nodup_range (n := A.length))
    intro i j hi hj hne h
    simp only [List.mem_range] at hi hj
    have r1 := valid_range hC (i := i) (by omega)
    have r2 := valid_range hC (i := j) (by omega)
    have := getD_inj vA.2.2 (by omega) (by omega) h
    exact hne (getD_inj vC.2.2 (by omega) (by omega) (by omega))
theorem mulP_assoc {A C D : List Int} (hl : A.length = C.length) (hl' : C.length = D.length) (hD : validL D = true) : mulP (mulP A C) D = mulP A (mulP C D) := by
  apply List.ext_getElem (by simp [mulP_length])
  intro i h1 h2
  rw [mulP_length, mulP_length] at h1
  have r := valid_range hD (i := i) (by omega)
  have e1 : (mulP (mulP A C) D)[i] = (mulP (mulP A C) D).getD i 0 := by simp [mulP_length, h1]
  have e2 : (mulP A (mulP C D))[i] = (mulP A (mulP C D)).getD i 0 := by simp [mulP_length, h1]
  rw [e1, e2, mulP_getD (by rw [mulP_length]; omega), mulP_getD (by omega), mulP_getD (by omega), mulP_getD (by omega)]
/-- All lists that `permS` may make. -/
def allP : Nat → List (List Int)
  | 0 => [[]]
  | i + 1 => (allP i).flatMap fun l => (List.range (i + 1)).map fun k => putP l k i
theorem permS_mem (A : List Int) : ∀ n, permS A n ∈ allP n
  | 0 => by simp [allP, permS]
  | i + 1 => by
    simp only [allP, permS, List.mem_flatMap, List.mem_map, List.mem_range]
    refine ⟨permS A i, permS_mem A i, _, ?_, rfl⟩
    split
    · have h1 := Int.emod_nonneg (A.getD i 0) (show (i : Int) + 1 ≠ 0 by omega)
      have h2 := Int.emod_lt_of_pos (A.getD i 0) (show (0 : Int) < (i : Int) + 1 by omega)
      omega
    · omega
theorem allP_valid : ((List.range 7).all fun n => (allP n).all validL) = true := by kernel_rfl
theorem permS_valid (A : List Int) {n : Nat} (h : n ≤ 6) : validL (permS A n) = true := by
  have h1 := List.all_eq_true.1 allP_valid n (by simp; omega)
  exact List.all_eq_true.1 h1 _ (permS_mem A n)
end Go.Proofs

/- Plain laws: what permutations generate. -/
set_option linter.unusedVariables false
namespace Go.Proofs
open Go.AI
/-- What the lists of G generate. -/
inductive Reach (G : List (List Int)) (n : Nat) : List Int → Prop
  | one : Reach G n (idP n)
  | step {a g : List Int} : Reach G n a → g ∈ G → Reach G n (mulP g a)
def PermN (n : Nat) (x : List Int) : Prop := validL x = true ∧ x.length = n
theorem idP_all : ((List.range 7).all fun n => validL (idP n)) = true := by kernel_rfl
theorem idP_perm {n : Nat} (h : n ≤ 6) : PermN n (idP n) := ⟨List.all_eq_true.1 idP_all n (by simp; omega), idP_length n⟩
theorem mulP_perm {n : Nat} {x y : List Int} (hx : PermN n x) (hy : PermN n y) : PermN n (mulP x y) := ⟨mulP_valid hx.1 hy.1 (by rw [hx.2, hy.2]), by rw [mulP_length]; exact hx.2⟩
theorem reach_perm {G : List (List Int)} {n : Nat} (hn : n ≤ 6) (hG : ∀ g ∈ G, PermN n g) {x : List Int} (h : Reach G n x) : PermN n x := by
  induction h with
  | one => exact idP_perm hn
  | step _ hg ih => exact mulP_perm (hG _ hg) ih
theorem enum_len : ((List.range 7).all fun n => decide ((enumL n n six).length ≤ 720)) = true := by kernel_rfl
/-- There are at most 720 of them. -/
theorem perm_count {n : Nat} (hn : n ≤ 6) {L : List (List Int)} (hd : L.Nodup) (h : ∀ x ∈ L, PermN n x) : L.length ≤ 720 := by
  have h1 := List.all_eq_true.1 enum_len n (by simp; omega)
  have h2 := List.Nodup.length_le_of_subset hd (l₂ := enumL n n six) (fun x hx => by
    obtain ⟨v, l⟩ := h x hx
    simp only [validL, Bool.and_eq_true, decide_eq_true_eq] at v
    have := mem_enum x.length x _ v.2
    rw [l] at this
    exact this)
  have h3 : (enumL n n six).length ≤ 720 := by simpa using h1
  omega
theorem Asc.nodup {L : List (List Int)} (h : Asc L) : L.Nodup := by
  rw [List.Nodup, List.pairwise_iff_getElem]
  intro i j hi hj hij e
  have := h i j hij hj
  have e1 : gt L i = L[i] := by simp [gt, hi]
  have e2 : gt L j = L[j] := by simp [gt, hj]
  rw [e1, e2, e, lexC_self] at this
  omega
theorem asc_pairwise {L : List (List Int)} : Asc L ↔ L.Pairwise fun x y => lexC x y < 0 := by
  rw [List.pairwise_iff_getElem]
  constructor
  · intro h i j hi hj hij
    have := h i j hij hj
    have e1 : gt L i = L[i] := by simp [gt, hi]
    have e2 : gt L j = L[j] := by simp [gt, hj]
    rwa [e1, e2] at this
  · intro h i j hij hj
    have hi : i < L.length := by omega
    have e1 : gt L i = L[i] := by simp [gt, hi]
    have e2 : gt L j = L[j] := by simp [gt, hj]
    rw [e1, e2]
    exact h i j hi hj hij
/-- Two ascending lists with the same elements. -/
theorem asc_unique {L L' : List (List Int)} (h : Asc L) (h' : L'.Pairwise (le' lexC)) (hd : L'.Nodup) (hm : ∀ x, x ∈ L ↔ x ∈ L') : L' = L := by
  have hp : L'.Perm L := (List.perm_ext_iff_of_nodup hd h.nodup).2 fun x => (hm x).symm
  refine List.Perm.eq_of_pairwise (le := le' lexC) (fun a b _ _ h1 h2 => le_antisymm h1 h2) h' ?_ hp
  exact (asc_pairwise.1 h).imp fun h => lex_cmp.asym _ _ h
/-- A place in an ascending list. -/
def insP (L : List (List Int)) (b : List Int) : List (List Int) := L.take (placeL L b) ++ [b] ++ L.drop (placeL L b)
theorem mem_insP {L : List (List Int)} {b x : List Int} : x ∈ insP L b ↔ x ∈ L ∨ x = b := by
  unfold insP
  have e : x ∈ L ↔ x ∈ L.take (placeL L b) ∨ x ∈ L.drop (placeL L b) := by
    rw [← List.mem_append, List.take_append_drop]
  simp only [List.mem_append, List.mem_singleton]
  rw [e]
  constructor
  · rintro ((h | h) | h)
    · exact Or.inl (Or.inl h)
    · exact Or.inr h
    · exact Or.inl (Or.inr h)
  · rintro ((h | h) | h)
    · exact Or.inl (Or.inl h)
    · exact Or.inr h
    · exact Or.inl (Or.inr h)
theorem insP_length (L : List (List Int)) (b : List Int) : (insP L b).length = L.length + 1 := by
  have := placeL_le L b
  simp [insP]; omega
theorem insP_asc {L : List (List Int)} {b : List Int} (h : Asc L) (hb : b ∉ L) : Asc (insP L b) := by
  obtain ⟨h1, h2⟩ := place_spec (b := b) h
  have hk := placeL_le L b
  rw [asc_pairwise] at h ⊢
  unfold insP
  rw [← List.take_append_drop (placeL L b) L] at h
  rw [List.pairwise_append] at h
  obtain ⟨a1, a2, a3⟩ := h
  have m1 : ∀ x ∈ L.take (placeL L b), lexC x b < 0 := by
    intro x hx
    obtain ⟨j, hj⟩ := List.mem_iff_getElem?.1 hx
    rw [List.getElem?_take] at hj
    split at hj
    · rename_i hlt
      have hjl := lt_of_get hj
      rw [gt_some hjl] at hj
      cases hj
      exact ltL_iff.1 (h1 j hlt)
    · cases hj
  have m2 : ∀ x ∈ L.drop (placeL L b), lexC b x < 0 := by
    intro x hx
    obtain ⟨j, hj⟩ := List.mem_iff_getElem?.1 hx
    rw [List.getElem?_drop] at hj
    have hjl := lt_of_get hj
    rw [gt_some hjl] at hj
    have h3 := h2 _ (show placeL L b ≤ placeL L b + j by omega) hjl
    injection hj with hj
    rw [hj] at h3
    have h4 : ¬ lexC x b < 0 := fun e => by rw [← ltL_iff, h3] at e; cases e
    have h5 : x ≠ b := fun e => hb (by rw [← e]; exact List.mem_of_mem_drop hx)
    have h6 := lexC_anti x b
    rcases Int.lt_trichotomy (lexC x b) 0 with e | e | e
    · exact absurd e h4
    · exact absurd (lexC_eq e) h5
    · omega
  rw [List.append_assoc, List.pairwise_append]
  refine ⟨a1, ?_, fun x hx y hy => ?_⟩
  · rw [List.singleton_append, List.pairwise_cons]
    exact ⟨m2, a2⟩
  · rcases List.mem_append.1 hy with hy | hy
    · rw [List.mem_singleton.1 hy]; exact m1 x hx
    · exact a3 x hx y hy
end Go.Proofs

/- Closure: the loops' rounds. -/
set_option linter.unusedVariables false
set_option linter.unusedSimpArgs false
set_option linter.unusedSectionVars false
namespace Go.Proofs
open Go.AI
set_option maxRecDepth 20000
set_option maxHeartbeats 2000000
theorem tkIs (k : Nat) (l : List (List Int)) : (l.map Is).take k = (l.take k).map Is := (List.map_take ..).symm
theorem drIs (k : Nat) (l : List (List Int)) : (l.map Is).drop k = (l.drop k).map Is := (List.map_drop ..).symm
theorem apIs (l m : List (List Int)) : l.map Is ++ m.map Is = (l ++ m).map Is := (List.map_append ..).symm
def s36 (G L T : List (List Int)) (v m : Nat) : St := ([(1, Iss G), (5, .sl false L.length (L.map Is)), (6, .ms 1 v 0 m 1)], [.cells true 0 [], .cells true v (T.map Is)])
def s36i (G L T : List (List Int)) (v m : Nat) (a : List Int) (i : Nat) : St := ([(1, Iss G), (5, .sl false L.length (L.map Is)), (6, .ms 1 v 0 m 1), (7, Is a), (8, I i)], [.cells true 0 [], .cells true v (T.map Is)])
section
variable {n : Nat} {G L T : List (List Int)} {v m i : Nat} {a : List Int} (hn : n ≤ 6) (hG : ∀ g ∈ G, PermN n g) (hGl : G.length ≤ 1000) (ha : PermN n a) (hL : L.length ≤ 720) (hLp : ∀ x ∈ L, PermN n x) (hm : m ≤ T.length) (hm' : m ≤ 2000)
include hn hG hGl ha hL hLp hm hm'
theorem r36a {c : Code} (h : loopOf 2 Try.f36 = some c) (hi : i < G.length) (hf : decide (L[placeL L (mulP (gt G i) a)]? = some (mulP (gt G i) a)) = true) : roundA Try.cfg 36 iter (call Try.cfg) 2 c (s36i G L T v m a i) = some (.normal, s36i G L T v m a (i + 1)) := by
  have hx := gt_some hi
  have hg := hG _ (List.mem_of_getElem? hx)
  have hgv := valid_len hg.1
  have h41 := call41u (A := gt G i) (C := a) hgv (by rw [ha.2, hg.2]) (fun j hj => by rw [hg.2, ← ha.2]; exact valid_range ha.1 (by rw [ha.2, ← hg.2]; exact hj))
  have hlen := mulP_length (gt G i) a
  have h40 := call40 (L := L) (b := mulP (gt G i) a) (by omega) (fun x hx => by have := valid_len (hLp x hx).1; omega) (by omega)
  rw [hf, hlen] at h40
  cases h
  generalize placeL L (mulP (gt G i) a) = k at *
  generalize mulP (gt G i) a = b at *
  generalize gt G i = x at *
  simp -implicitDefEqProofs (maxSteps := 1000000) (disch := omega) only [push_cast, ↓dstAt_zero, ↓dstAt_succ, ↓arun_skip, ↓arun_region, ↓arun_seq, ↓arun_cond, ↓arun_block, ↓arun_loop, ↓arun_exit, ↓arun_ret, aops_nil, aops_cons, aops_cons_guard, ↓putA_some, ↓putA_none, ↓aop_move, ↓aop_assign, ↓aop_pick, ↓aop_alloc, ↓aop_box, ↓aop_build, ↓aop_buildSlice, ↓aop_load, ↓aop_store, ↓aop_nilCheck, ↓aop_binOp, ↓aop_unOp, ↓aop_convert, ↓aop_makeSlice, ↓aop_fieldAddr, ↓aop_field, ↓aop_indexAddr, ↓aop_index, ↓aop_lookup, ↓aop_mapUpdate, ↓aop_insert, ↓aop_extract, ↓aop_callB, ↓aop_callF, ↓aop_callT, ↓aop_makeFunc, ↓aop_makeMap, ↓aop_slice, ↓aevs_nil, ↓aevs_cons, ↓evP_nil, ↓evP_cons, ↓aevO_none, ↓aevO_some, ↓reduceIte, reduceCtorEq, Nat.reduceEqDiff, Nat.reduceAdd, Nat.reduceLT, Nat.reduceSub, Nat.reduceMul, Nat.reduceLeDiff, if_true, if_false, if_pos, if_neg, s36i, Iss, hx, h41, h40]
  try rfl
theorem r36b {c : Code} (h : loopOf 2 Try.f36 = some c) (hi : i < G.length) (hf : decide (L[placeL L (mulP (gt G i) a)]? = some (mulP (gt G i) a)) = false) : roundA Try.cfg 36 iter (call Try.cfg) 2 c (s36i G L T v m a i) = some (.normal, s36i G (insP L (mulP (gt G i) a)) (T.take m ++ [mulP (gt G i) a]) (v + 1) (m + 1) a (i + 1)) := by
  have hx := gt_some hi
  have hg := hG _ (List.mem_of_getElem? hx)
  have hgv := valid_len hg.1
  have h41 := call41u (A := gt G i) (C := a) hgv (by rw [ha.2, hg.2]) (fun j hj => by rw [hg.2, ← ha.2]; exact valid_range ha.1 (by rw [ha.2, ← hg.2]; exact hj))
  have hlen := mulP_length (gt G i) a
  have h40 := call40 (L := L) (b := mulP (gt G i) a) (by omega) (fun x hx => by have := valid_len (hLp x hx).1; omega) (by omega)
  rw [hf, hlen] at h40
  have hk := placeL_le L (mulP (gt G i) a)
  have hil := insP_length L (mulP (gt G i) a)
  have hins : insP L (mulP (gt G i) a) = L.take (placeL L (mulP (gt G i) a)) ++ [mulP (gt G i) a] ++ L.drop (placeL L (mulP (gt G i) a)) := rfl
  have e1 : min (placeL L (mulP (gt G i) a)) L.length = placeL L (mulP (gt G i) a) := by omega
  have e2 : min m T.length = m := by omega
  have e3 : placeL L (mulP (gt G i) a) + 1 + (L.length - placeL L (mulP (gt G i) a)) = L.length + 1 := by omega
  have hbi : AV.sl false (gt G i).length ((mulP (gt G i) a).map I) = Is (mulP (gt G i) a) := by rw [← hlen]; rfl
  cases h
  generalize placeL L (mulP (gt G i) a) = k at *
  generalize insP L (mulP (gt G i) a) = L' at *
  generalize mulP (gt G i) a = b at *
  generalize gt G i = x at *
  simp -implicitDefEqProofs (maxSteps := 1000000) (disch := omega) only [push_cast, ↓dstAt_zero, ↓dstAt_succ, ↓arun_skip, ↓arun_region, ↓arun_seq, ↓arun_cond, ↓arun_block, ↓arun_loop, ↓arun_exit, ↓arun_ret, aops_nil, aops_cons, aops_cons_guard, ↓putA_some, ↓putA_none, ↓aop_move, ↓aop_assign, ↓aop_pick, ↓aop_alloc, ↓aop_box, ↓aop_build, ↓aop_buildSlice, ↓aop_load, ↓aop_store, ↓aop_nilCheck, ↓aop_binOp, ↓aop_unOp, ↓aop_convert, ↓aop_makeSlice, ↓aop_fieldAddr, ↓aop_field, ↓aop_indexAddr, ↓aop_index, ↓aop_lookup, ↓aop_mapUpdate, ↓aop_insert, ↓aop_extract, ↓aop_callB, ↓aop_callF, ↓aop_callT, ↓aop_makeFunc, ↓aop_makeMap, ↓aop_slice, ↓aevs_nil, ↓aevs_cons, ↓evP_nil, ↓evP_cons, ↓aevO_none, ↓aevO_some, ↓reduceIte, reduceCtorEq, Nat.reduceEqDiff, Nat.reduceAdd, Nat.reduceLT, Nat.reduceSub, Nat.reduceMul, Nat.reduceLeDiff, if_true, if_false, if_pos, if_neg, s36i, Iss, hx, h41, h40, tkIs, drIs, apIs, e1, e2, e3]
  have f1 : List.take k (List.take k L) = List.take k L := by rw [List.take_take, Nat.min_self]
  have f2 : List.take (k + 1) (List.map Is (List.take k L) ++ [Is b]) = (List.take k L ++ [b]).map Is := by
    rw [List.map_append]
    exact List.take_of_length_le (by simp; omega)
  have f3 : List.take (L.length - k) (List.drop k L) = List.drop k L := List.take_of_length_le (by simp)
  have f4 : List.take (L.length + 1) (List.map Is L') = List.map Is L' := List.take_of_length_le (by simp; omega)
  have f5 : List.map Is (List.take m T) ++ [Is b] = List.map Is (List.take m T ++ [b]) := by rw [List.map_append]; rfl
  simp only [f1, hbi, f2, f3, apIs, ← hins, f4, f5, goodL_Is, if_true, obind_some, markA_cons, markA_nil, List.getElem?_cons_zero, List.getElem?_cons_succ, freezeAt_cells, List.set_cons_zero, List.set_cons_succ, truncA_eq, List.all_cons, List.all_nil, List.take_succ_cons, List.take_zero, under_v, under_sl, under_ms, under_cells, underL_nil, underL_Is, Bool.and_true, Bool.and_self, hil]
  rfl
theorem r36c {c : Code} (h : loopOf 2 Try.f36 = some c) : roundA Try.cfg 36 iter (call Try.cfg) 2 c (s36i G L T v m a G.length) = some (.exit 2, s36 G L T v m) := by
  cases h
  simp -implicitDefEqProofs (maxSteps := 1000000) (disch := omega) only [push_cast, ↓dstAt_zero, ↓dstAt_succ, ↓arun_skip, ↓arun_region, ↓arun_seq, ↓arun_cond, ↓arun_block, ↓arun_loop, ↓arun_exit, ↓arun_ret, aops_nil, aops_cons, aops_cons_guard, ↓putA_some, ↓putA_none, ↓aop_move, ↓aop_assign, ↓aop_pick, ↓aop_alloc, ↓aop_box, ↓aop_build, ↓aop_buildSlice, ↓aop_load, ↓aop_store, ↓aop_nilCheck, ↓aop_binOp, ↓aop_unOp, ↓aop_convert, ↓aop_makeSlice, ↓aop_fieldAddr, ↓aop_field, ↓aop_indexAddr, ↓aop_index, ↓aop_lookup, ↓aop_mapUpdate, ↓aop_insert, ↓aop_extract, ↓aop_callB, ↓aop_callF, ↓aop_callT, ↓aop_makeFunc, ↓aop_makeMap, ↓aop_slice, ↓aevs_nil, ↓aevs_cons, ↓evP_nil, ↓evP_cons, ↓aevO_none, ↓aevO_some, ↓reduceIte, reduceCtorEq, Nat.reduceEqDiff, Nat.reduceAdd, Nat.reduceLT, Nat.reduceSub, Nat.reduceMul, Nat.reduceLeDiff, if_true, if_false, if_pos, if_neg, s36i, s36, Iss, Int.lt_irrefl]
end
end Go.Proofs

/- Closure: what it returns. -/
set_option linter.unusedVariables false
set_option linter.unusedSimpArgs false
set_option linter.unusedSectionVars false
namespace Go.Proofs
open Go.AI
set_option maxRecDepth 20000
set_option maxHeartbeats 2000000
/-- What is known at the outer loop's head: `td` is still to be looked at. -/
structure Inv36 (G : List (List Int)) (n : Nat) (L td : List (List Int)) : Prop where
  asc : Asc L
  reach : ∀ x ∈ L, Reach G n x
  one : idP n ∈ L
  sub : ∀ x ∈ td, x ∈ L
  closed : ∀ x ∈ L, x ∉ td → ∀ g ∈ G, mulP g x ∈ L
/-- At the inner loop's head. -/
structure InvI36 (G : List (List Int)) (n : Nat) (L td : List (List Int)) (a : List Int) (i : Nat) : Prop where
  asc : Asc L
  reach : ∀ x ∈ L, Reach G n x
  one : idP n ∈ L
  sub : ∀ x ∈ td, x ∈ L
  ina : a ∈ L
  closed : ∀ x ∈ L, x ∉ td → x ≠ a → ∀ g ∈ G, mulP g x ∈ L
  done : ∀ j, j < i → mulP (gt G j) a ∈ L
section
variable {n : Nat} {G : List (List Int)} (hn : n ≤ 6) (hG : ∀ g ∈ G, PermN n g) (hGl : G.length ≤ 1000)
include hn hG hGl
theorem inv_len {L : List (List Int)} (hA : Asc L) (hr : ∀ x ∈ L, Reach G n x) : L.length ≤ 720 := perm_count hn hA.nodup fun x hx => reach_perm hn hG (hr x hx)
theorem l36i {c : Code} (h : loopOf 2 Try.f36 = some c) {a : List Int} : ∀ (k i : Nat) (L T : List (List Int)) (v m : Nat), i + k = G.length → m ≤ T.length → 2 * (720 - L.length) + m ≤ 2000 → InvI36 G n L (T.take m) a i →
    ∃ L' T' v' m', iter (roundA Try.cfg 36 iter (call Try.cfg) 2 c) (s36i G L T v m a i) = some (.exit 2, s36 G L' T' v' m') ∧ m' ≤ T'.length ∧ 2 * (720 - L'.length) + m' ≤ 2 * (720 - L.length) + m ∧ Inv36 G n L' (T'.take m')
  | 0, i, L, T, v, m, hk, hm, hM, hI => by
    have hL := inv_len hn hG hGl hI.asc hI.reach
    have e : i = G.length := by omega
    refine ⟨L, T, v, m, ?_, hm, Nat.le_refl _, ⟨hI.asc, hI.reach, hI.one, hI.sub, fun x hx hnx g hg => ?_⟩⟩
    · rw [e]
      exact iter_last (r36c hn hG hGl (reach_perm hn hG (hI.reach a hI.ina)) hL (fun x hx => reach_perm hn hG (hI.reach x hx)) hm (by omega) h) (by simp)
    · by_cases exa : x = a
      · obtain ⟨j, hj⟩ := List.mem_iff_getElem?.1 hg
        have hjl := lt_of_get hj
        rw [gt_some hjl] at hj
        cases hj
        rw [exa]
        exact hI.done j (by omega)
      · exact hI.closed x hx hnx exa g hg
  | k + 1, i, L, T, v, m, hk, hm, hM, hI => by
    have hL := inv_len hn hG hGl hI.asc hI.reach
    have ha := reach_perm hn hG (hI.reach a hI.ina)
    have hLp := fun x (hx : x ∈ L) => reach_perm hn hG (hI.reach x hx)
    have hi : i < G.length := by omega
    have hgi : gt G i ∈ G := List.mem_of_getElem? (gt_some hi)
    cases hf : decide (L[placeL L (mulP (gt G i) a)]? = some (mulP (gt G i) a)) with
    | true =>
      have hmem := (place_mem hI.asc).1 (of_decide_eq_true hf)
      obtain ⟨L', T', v', m', g1, g2, g3, g4⟩ := l36i h k (i + 1) L T v m (by omega) hm hM ⟨hI.asc, hI.reach, hI.one, hI.sub, hI.ina, hI.closed, fun j hj => by
        by_cases e : j = i
        · rw [e]; exact hmem
        · exact hI.done j (by omega)⟩
      exact ⟨L', T', v', m', iter_normal (r36a hn hG hGl ha hL hLp hm (by omega) h hi hf) g1, g2, g3, g4⟩
    | false =>
      have hnm : mulP (gt G i) a ∉ L := fun e => of_decide_eq_false hf ((place_mem hI.asc).2 e)
      have hr : ∀ x ∈ insP L (mulP (gt G i) a), Reach G n x := fun x hx => by
        rcases mem_insP.1 hx with hx | rfl
        · exact hI.reach x hx
        · exact .step (hI.reach a hI.ina) hgi
      have hA := insP_asc hI.asc hnm
      have hl := insP_length L (mulP (gt G i) a)
      have hL' := inv_len hn hG hGl hA hr
      have ht : ∀ x, x ∈ List.take (m + 1) (T.take m ++ [mulP (gt G i) a]) ↔ x ∈ T.take m ∨ x = mulP (gt G i) a := fun x => by
        rw [List.take_of_length_le (by simp; omega)]
        simp
      obtain ⟨L', T', v', m', g1, g2, g3, g4⟩ := l36i h k (i + 1) (insP L (mulP (gt G i) a)) (T.take m ++ [mulP (gt G i) a]) (v + 1) (m + 1) (by omega) (by simp; omega) (by omega)
        ⟨hA, hr, mem_insP.2 (Or.inl hI.one), fun x hx => by
          rcases (ht x).1 hx with hx | rfl
          · exact mem_insP.2 (Or.inl (hI.sub x hx))
          · exact mem_insP.2 (Or.inr rfl), mem_insP.2 (Or.inl hI.ina), fun x hx hnx hxa g hg => by
          rcases mem_insP.1 hx with hx | rfl
          · exact mem_insP.2 (Or.inl (hI.closed x hx (fun e => hnx ((ht x).2 (Or.inl e))) hxa g hg))
          · exact absurd ((ht _).2 (Or.inr rfl)) hnx, fun j hj => by
          by_cases e : j = i
          · rw [e]; exact mem_insP.2 (Or.inr rfl)
          · exact mem_insP.2 (Or.inl (hI.done j (by omega)))⟩
      exact ⟨L', T', v', m', iter_normal (r36b hn hG hGl ha hL hLp hm (by omega) h hi hf) g1, g2, by omega, g4⟩
section
variable {c : Code} (h : loopOf 0 Try.f36 = some c) {L T L' T' : List (List Int)} {v v' m m' : Nat} {a : List Int}
include h
theorem o36a (hm : m + 1 ≤ T.length) (hm' : m ≤ 2000) (hL : L.length ≤ 720) (hx : T[m]? = some a) (gi : ∀ c2, loopOf 2 Try.f36 = some c2 → iter (roundA Try.cfg 36 iter (call Try.cfg) 2 c2) (s36i G L T v m a 0) = some (.exit 2, s36 G L' T' v' m')) :
    roundA Try.cfg 36 iter (call Try.cfg) 0 c (s36 G L T v (m + 1)) = some (.normal, s36 G L' T' v' m') := by
  cases h2 : loopOf 2 Try.f36 with
  | none => cases h2
  | some c2 =>
    have g1 := gi c2 h2
    cases h
    cases h2
    simp only [s36, s36i, Iss, Is, Int.natCast_zero] at g1
    have e1 : min (m + 1) T.length = m + 1 := by omega
    have e2 : (List.map Is (List.take (m + 1) T))[m]? = some (Is a) := by simp [List.getElem?_take, hx]
    simp -implicitDefEqProofs (maxSteps := 1000000) (disch := omega) only [push_cast, ↓dstAt_zero, ↓dstAt_succ, ↓arun_skip, ↓arun_region, ↓arun_seq, ↓arun_cond, ↓arun_block, ↓arun_loop, ↓arun_exit, ↓arun_ret, aops_nil, aops_cons, aops_cons_guard, ↓putA_some, ↓putA_none, ↓aop_move, ↓aop_assign, ↓aop_pick, ↓aop_alloc, ↓aop_box, ↓aop_build, ↓aop_buildSlice, ↓aop_load, ↓aop_store, ↓aop_nilCheck, ↓aop_binOp, ↓aop_unOp, ↓aop_convert, ↓aop_makeSlice, ↓aop_fieldAddr, ↓aop_field, ↓aop_indexAddr, ↓aop_index, ↓aop_lookup, ↓aop_mapUpdate, ↓aop_insert, ↓aop_extract, ↓aop_callB, ↓aop_callF, ↓aop_callT, ↓aop_makeFunc, ↓aop_makeMap, ↓aop_slice, ↓aevs_nil, ↓aevs_cons, ↓evP_nil, ↓evP_cons, ↓aevO_none, ↓aevO_some, ↓reduceIte, reduceCtorEq, Nat.reduceEqDiff, Nat.reduceAdd, Nat.reduceLT, Nat.reduceSub, Nat.reduceMul, Nat.reduceLeDiff, if_true, if_false, if_pos, if_neg, s36, s36i, Iss, hx, g1, tn1, Int.add_sub_cancel, tkIs]
theorem o36b : roundA Try.cfg 36 iter (call Try.cfg) 0 c (s36 G L T v 0) = some (.exit 0, [(5, .sl false L.length (L.map Is))], [.cells true 0 [], .cells true v (T.map Is)]) := by
  cases h
  simp -implicitDefEqProofs (maxSteps := 1000000) (disch := omega) only [push_cast, ↓dstAt_zero, ↓dstAt_succ, ↓arun_skip, ↓arun_region, ↓arun_seq, ↓arun_cond, ↓arun_block, ↓arun_loop, ↓arun_exit, ↓arun_ret, aops_nil, aops_cons, aops_cons_guard, ↓putA_some, ↓putA_none, ↓aop_move, ↓aop_assign, ↓aop_pick, ↓aop_alloc, ↓aop_box, ↓aop_build, ↓aop_buildSlice, ↓aop_load, ↓aop_store, ↓aop_nilCheck, ↓aop_binOp, ↓aop_unOp, ↓aop_convert, ↓aop_makeSlice, ↓aop_fieldAddr, ↓aop_field, ↓aop_indexAddr, ↓aop_index, ↓aop_lookup, ↓aop_mapUpdate, ↓aop_insert, ↓aop_extract, ↓aop_callB, ↓aop_callF, ↓aop_callT, ↓aop_makeFunc, ↓aop_makeMap, ↓aop_slice, ↓aevs_nil, ↓aevs_cons, ↓evP_nil, ↓evP_cons, ↓aevO_none, ↓aevO_some, ↓reduceIte, reduceCtorEq, Nat.reduceEqDiff, Nat.reduceAdd, Nat.reduceLT, Nat.reduceSub, Nat.reduceMul, Nat.reduceLeDiff, if_true, if_false, if_pos, if_neg, s36, Iss, Int.natCast_zero, Int.lt_irrefl]
end
end
end Go.Proofs

/- Closure: the function. -/
set_option linter.unusedVariables false
set_option linter.unusedSimpArgs false
set_option linter.unusedSectionVars false
namespace Go.Proofs
open Go.AI
set_option maxRecDepth 20000
set_option maxHeartbeats 2000000
theorem assign_lit (H : Heap) (x : AV) : assignA H (.sl true 1 [x]) = some (.sl true 1 [x], H) := rfl
section
variable {n : Nat} {G : List (List Int)} (hn : n ≤ 6) (hG : ∀ g ∈ G, PermN n g) (hGl : G.length ≤ 1000)
include hn hG hGl
theorem l36 {c : Code} (h : loopOf 0 Try.f36 = some c) : ∀ (M : Nat) (L T : List (List Int)) (v m : Nat), 2 * (720 - L.length) + m ≤ M → M ≤ 2000 → m ≤ T.length → Inv36 G n L (T.take m) →
    ∃ (L' T' : List (List Int)) (v' : Nat), iter (roundA Try.cfg 36 iter (call Try.cfg) 0 c) (s36 G L T v m) = some (.exit 0, [(5, .sl false L'.length (L'.map Is))], [.cells true 0 [], .cells true v' (T'.map Is)]) ∧ Inv36 G n L' []
  | M, L, T, v, 0, hM, hM', hm, hI => ⟨L, T, v, iter_last (o36b hn hG hGl h) (by simp), by simpa using hI⟩
  | 0, L, T, v, m + 1, hM, hM', hm, hI => by omega
  | M + 1, L, T, v, m + 1, hM, hM', hm, hI => by
    cases h2 : loopOf 2 Try.f36 with
    | none => cases h2
    | some c2 =>
      have hx : T[m]? = some T[m] := List.getElem?_eq_getElem (by omega)
      generalize T[m] = a at hx
      have ht : ∀ x, x ∈ T.take (m + 1) ↔ x ∈ T.take m ∨ x = a := fun x => by
        rw [List.take_add_one, hx]; simp
      have hL := inv_len hn hG hGl hI.asc hI.reach
      obtain ⟨L1, T1, v1, m1, g1, g2, g3, g4⟩ := l36i hn hG hGl h2 (a := a) G.length 0 L T v m (by omega) (by omega) (by omega)
        ⟨hI.asc, hI.reach, hI.one, fun x hx => hI.sub x ((ht x).2 (Or.inl hx)), hI.sub a ((ht a).2 (Or.inr rfl)), fun x hx hnx hxa g hg => hI.closed x hx (fun e => by
          rcases (ht x).1 e with e | e
          · exact hnx e
          · exact hxa e) g hg, fun j hj => by omega⟩
      obtain ⟨L', T', v', g5, g6⟩ := l36 h M L1 T1 v1 m1 (by omega) (by omega) g2 g4
      refine ⟨L', T', v', iter_normal (o36a hn hG hGl h hm (by omega) hL hx (fun c3 h3 => ?_)) g5, g6⟩
      rw [h2] at h3
      cases h3
      exact g1
theorem inv_all {L : List (List Int)} (hI : Inv36 G n L []) (x : List Int) : x ∈ L ↔ Reach G n x := by
  constructor
  · exact hI.reach x
  · intro h
    induction h with
    | one => exact hI.one
    | step _ hg ih => exact hI.closed _ ih (by simp) _ hg
/-- What Closure returns. -/
theorem call36 : ∃ L, call Try.cfg 36 [.v (.int .i64 n), .sl false G.length (G.map Is)] [] = some (.sl false L.length (L.map Is), []) ∧ Asc L ∧ ∀ x, x ∈ L ↔ Reach G n x := by
  cases h0 : loopOf 0 Try.f36 with
  | none => cases h0
  | some c =>
    have hl := idP_length n
    obtain ⟨L, T, v, g1, g2⟩ := l36 hn hG hGl h0 1439 [idP n] [idP n] 0 1 (by simp) (by omega) (by simp)
      ⟨fun i j h1 h2 => by simp at h2; omega, fun x hx => by simp at hx; rw [hx]; exact .one, by simp, fun x hx => by simpa using hx, fun x hx hnx => absurd (by simpa using hx) hnx⟩
    refine ⟨L, call_step ?_, g2.asc, inv_all hn hG hGl g2⟩
    have h38 := call38u (n := n) (by omega)
    have hL := inv_len hn hG hGl g2.asc g2.reach
    have e1 : List.take L.length (List.map Is L) = List.map Is L := List.take_of_length_le (by simp)
    cases h0
    simp only [s36, Iss, List.length_cons, List.length_nil, List.map_cons, List.map_nil, Is, hl, Nat.zero_add] at g1
    simp -implicitDefEqProofs (maxSteps := 1000000) (disch := omega) only [stepA, bodyA, Try.f36, push_cast, ↓dstAt_zero, ↓dstAt_succ, ↓arun_skip, ↓arun_region, ↓arun_seq, ↓arun_cond, ↓arun_block, ↓arun_loop, ↓arun_exit, ↓arun_ret, aops_nil, aops_cons, aops_cons_guard, ↓putA_some, ↓putA_none, ↓aop_move, ↓aop_assign, ↓aop_pick, ↓aop_alloc, ↓aop_box, ↓aop_build, ↓aop_buildSlice, ↓aop_load, ↓aop_store, ↓aop_nilCheck, ↓aop_binOp, ↓aop_unOp, ↓aop_convert, ↓aop_makeSlice, ↓aop_fieldAddr, ↓aop_field, ↓aop_indexAddr, ↓aop_index, ↓aop_lookup, ↓aop_mapUpdate, ↓aop_insert, ↓aop_extract, ↓aop_callB, ↓aop_callF, ↓aop_callT, ↓aop_makeFunc, ↓aop_makeMap, ↓aop_slice, ↓aevs_nil, ↓aevs_cons, ↓evP_nil, ↓evP_cons, ↓aevO_none, ↓aevO_some, ↓reduceIte, reduceCtorEq, Nat.reduceEqDiff, Nat.reduceAdd, Nat.reduceLT, Nat.reduceSub, Nat.reduceMul, Nat.reduceLeDiff, if_true, if_false, if_pos, if_neg, h38, g1, repl_one, List.replicate_one, ↓assign_lit]
end
end Go.Proofs

/- slices.insertionSortCmpFunc. -/
set_option linter.unusedVariables false
set_option linter.unusedSimpArgs false
set_option linter.unusedSectionVars false
namespace Go.Proofs
open Go.AI
set_option maxRecDepth 20000
section
variable {α : Type} {en : α → AV} (hE : El en) {c : α → α → Int} {F : FuncId} (hF : Try.cfg.shared F = false) (hc : ∀ x y, call Try.cfg F [en x, en y] [] = some (.v (.int .i64 (c x y)), [])) {H : Heap} {b ver n : Nat} (hb : b < H.length)
include hE hF hc hb
section
variable {a : Code} (h : loopOf 2 Try.f52 = some a) {l : List α} {A B i j : Nat} (hl : l.length = n) (hn : n ≤ 1000000)
include h hl hn
omit hE hF hc hb h hl hn in
def si52 (en : α → AV) (F : FuncId) (H : Heap) (b ver n : Nat) (l : List α) (A B i j : Nat) : St := ([(0, .ms b ver 0 n 1), (1, I A), (2, I B), (3, .fn F []), (8, I i), (9, I j)], hs en H b ver l)
omit hE hF hc hb h hl hn in
def so52 (en : α → AV) (F : FuncId) (H : Heap) (b ver n : Nat) (l : List α) (A B i : Nat) : St := ([(0, .ms b ver 0 n 1), (1, I A), (2, I B), (3, .fn F []), (8, I i)], hs en H b ver l)
theorem i52a {k : Nat} (hk : A ≤ k) {x y : α} (hx : l[k + 1]? = some x) (hy : l[k]? = some y) (hlt : c x y < 0) : roundA Try.cfg 52 iter (call Try.cfg) 2 a (si52 en F H b ver n l A B i (k + 1)) = some (.normal, si52 en F H b ver n (swp l (k + 1) k x y) A B i k) := by
  cases h
  have h1 := lt_of_get hx
  simp -implicitDefEqProofs (maxSteps := 1000000) (disch := omega) only [push_cast, ↓dstAt_zero, ↓dstAt_succ, ↓arun_skip, ↓arun_region, ↓arun_seq, ↓arun_cond, ↓arun_block, ↓arun_loop, ↓arun_exit, ↓arun_ret, aops_nil, aops_cons, aops_cons_guard, ↓putA_some, ↓putA_none, ↓aop_move, ↓aop_assign, ↓aop_pick, ↓aop_alloc, ↓aop_box, ↓aop_build, ↓aop_buildSlice, ↓aop_load, ↓aop_store, ↓aop_nilCheck, ↓aop_binOp, ↓aop_unOp, ↓aop_convert, ↓aop_makeSlice, ↓aop_fieldAddr, ↓aop_field, ↓aop_indexAddr, ↓aop_index, ↓aop_lookup, ↓aop_mapUpdate, ↓aop_insert, ↓aop_extract, ↓aop_callB, ↓aop_callF, ↓aop_callT, ↓aop_makeFunc, ↓aop_makeMap, ↓aop_slice, ↓aevs_nil, ↓aevs_cons, ↓evP_nil, ↓evP_cons, ↓aevO_none, ↓aevO_some, ↓reduceIte, reduceCtorEq, Nat.reduceEqDiff, Nat.reduceAdd, Nat.reduceLT, Nat.reduceSub, Nat.reduceMul, Nat.reduceLeDiff, if_true, if_false, if_pos, if_neg, si52, hs_get, hs_set, set_en, ↓closeA_en hE, ↓hE.cell, ↓hE.flat, hF, hc, tn1, Int.add_sub_cancel, hx, hy, swp]
theorem i52b {k : Nat} (hk : A ≤ k) {x y : α} (hx : l[k + 1]? = some x) (hy : l[k]? = some y) (hlt : ¬ c x y < 0) : roundA Try.cfg 52 iter (call Try.cfg) 2 a (si52 en F H b ver n l A B i (k + 1)) = some (.exit 2, so52 en F H b ver n l A B i) := by
  cases h
  have h1 := lt_of_get hx
  simp -implicitDefEqProofs (maxSteps := 1000000) (disch := omega) only [push_cast, ↓dstAt_zero, ↓dstAt_succ, ↓arun_skip, ↓arun_region, ↓arun_seq, ↓arun_cond, ↓arun_block, ↓arun_loop, ↓arun_exit, ↓arun_ret, aops_nil, aops_cons, aops_cons_guard, ↓putA_some, ↓putA_none, ↓aop_move, ↓aop_assign, ↓aop_pick, ↓aop_alloc, ↓aop_box, ↓aop_build, ↓aop_buildSlice, ↓aop_load, ↓aop_store, ↓aop_nilCheck, ↓aop_binOp, ↓aop_unOp, ↓aop_convert, ↓aop_makeSlice, ↓aop_fieldAddr, ↓aop_field, ↓aop_indexAddr, ↓aop_index, ↓aop_lookup, ↓aop_mapUpdate, ↓aop_insert, ↓aop_extract, ↓aop_callB, ↓aop_callF, ↓aop_callT, ↓aop_makeFunc, ↓aop_makeMap, ↓aop_slice, ↓aevs_nil, ↓aevs_cons, ↓evP_nil, ↓evP_cons, ↓aevO_none, ↓aevO_some, ↓reduceIte, reduceCtorEq, Nat.reduceEqDiff, Nat.reduceAdd, Nat.reduceLT, Nat.reduceSub, Nat.reduceMul, Nat.reduceLeDiff, if_true, if_false, if_pos, if_neg, si52, so52, hs_get, hs_set, set_en, ↓closeA_en hE, ↓hE.cell, ↓hE.flat, hF, hc, tn1, Int.add_sub_cancel, hx, hy]
theorem i52c (hj : j ≤ A) : roundA Try.cfg 52 iter (call Try.cfg) 2 a (si52 en F H b ver n l A B i j) = some (.exit 2, so52 en F H b ver n l A B i) := by
  cases h
  simp -implicitDefEqProofs (maxSteps := 1000000) (disch := omega) only [push_cast, ↓dstAt_zero, ↓dstAt_succ, ↓arun_skip, ↓arun_region, ↓arun_seq, ↓arun_cond, ↓arun_block, ↓arun_loop, ↓arun_exit, ↓arun_ret, aops_nil, aops_cons, aops_cons_guard, ↓putA_some, ↓putA_none, ↓aop_move, ↓aop_assign, ↓aop_pick, ↓aop_alloc, ↓aop_box, ↓aop_build, ↓aop_buildSlice, ↓aop_load, ↓aop_store, ↓aop_nilCheck, ↓aop_binOp, ↓aop_unOp, ↓aop_convert, ↓aop_makeSlice, ↓aop_fieldAddr, ↓aop_field, ↓aop_indexAddr, ↓aop_index, ↓aop_lookup, ↓aop_mapUpdate, ↓aop_insert, ↓aop_extract, ↓aop_callB, ↓aop_callF, ↓aop_callT, ↓aop_makeFunc, ↓aop_makeMap, ↓aop_slice, ↓aevs_nil, ↓aevs_cons, ↓evP_nil, ↓evP_cons, ↓aevO_none, ↓aevO_some, ↓reduceIte, reduceCtorEq, Nat.reduceEqDiff, Nat.reduceAdd, Nat.reduceLT, Nat.reduceSub, Nat.reduceMul, Nat.reduceLeDiff, if_true, if_false, if_pos, if_neg, si52, so52, hs_get, hs_set, set_en, ↓closeA_en hE, ↓hE.cell, ↓hE.flat, hF, hc, tn1, Int.add_sub_cancel]
/-- All are in order up to i, but for the one at j, which may belong further to the left. -/
def Hole (c : α → α → Int) (A i j : Nat) (l : List α) : Prop := ∀ p q x y, A ≤ p → p < q → q ≤ i → q ≠ j → l[p]? = some x → l[q]? = some y → le' c x y
omit hE hF hc hb h hl hn in
theorem Hole.step (hC : Cmp c) {i k : Nat} (hAk : A ≤ k) (hk : k + 1 ≤ i) {x y : α} (hx : l[k + 1]? = some x) (hy : l[k]? = some y) (hlt : c x y < 0) (hI : Hole c A i (k + 1) l) : Hole c A i k (swp l (k + 1) k x y) := by
  intro p q u v hp hpq hq hne hu hv
  rw [swp_get hx hy] at hu hv
  by_cases q1 : q = k + 1
  · subst q1
    rw [if_neg (by omega), if_pos rfl] at hv
    cases hv
    by_cases p1 : p = k
    · subst p1
      rw [if_pos rfl] at hu
      cases hu
      exact hC.asym _ _ hlt
    · rw [if_neg p1, if_neg (by omega)] at hu
      exact hI p k u _ hp (by omega) (by omega) (by omega) hu hy
  · rw [if_neg hne, if_neg q1] at hv
    by_cases p1 : p = k
    · subst p1
      rw [if_pos rfl] at hu
      cases hu
      exact hI (p + 1) q _ v (by omega) (by omega) hq q1 hx hv
    · rw [if_neg p1] at hu
      by_cases p2 : p = k + 1
      · subst p2
        rw [if_pos rfl] at hu
        cases hu
        exact hI k q _ v (by omega) (by omega) hq q1 hy hv
      · rw [if_neg p2] at hu
        exact hI p q u v hp hpq hq q1 hu hv
omit hE hF hc hb h hl hn in
theorem Hole.done (hC : Cmp c) {i k : Nat} {x y : α} (hx : l[k + 1]? = some x) (hy : l[k]? = some y) (hlt : ¬ c x y < 0) (hI : Hole c A i (k + 1) l) : SortedOn c A (i + 1) l := by
  intro p q u v hp hpq hq hu hv
  by_cases q1 : q = k + 1
  · subst q1
    rw [hx] at hv
    cases hv
    by_cases p1 : p = k
    · subst p1
      rw [hy] at hu
      cases hu
      exact hlt
    · exact hC.tr _ _ _ (hI p k u y hp (by omega) (by omega) (by omega) hu hy) hlt
  · exact hI p q u v hp hpq (by omega) q1 hu hv
omit hl in
theorem inner52 (hC : Cmp c) (hi : i < n) : ∀ (j : Nat) (l : List α), l.length = n → A ≤ j → j ≤ i → Hole c A i j l →
    ∃ l', iter (roundA Try.cfg 52 iter (call Try.cfg) 2 a) (si52 en F H b ver n l A B i j) = some (.exit 2, so52 en F H b ver n l' A B i) ∧ PermOn A (i + 1) l l' ∧ SortedOn c A (i + 1) l'
  | 0, l, hl, hA, hj, hI => ⟨l, iter_last (i52c hE hF hc hb h hl hn (by omega)) (by simp [so52]), PermOn.refl _ _ _, fun p q x y hp hpq hq hx hy => hI p q x y hp hpq (by omega) (by omega) hx hy⟩
  | k + 1, l, hl, hA, hj, hI => by
    by_cases hk : A ≤ k
    · have hx : l[k + 1]? = some l[k + 1] := List.getElem?_eq_getElem (by omega)
      have hy : l[k]? = some l[k] := List.getElem?_eq_getElem (by omega)
      generalize l[k + 1] = x at hx
      generalize l[k] = y at hy
      by_cases hlt : c x y < 0
      · obtain ⟨l', h1, h2, h3⟩ := inner52 hC hi k (swp l (k + 1) k x y) (by rw [swp_length]; exact hl) hk (by omega) (hI.step hC hk hj hx hy hlt)
        exact ⟨l', iter_normal (i52a hE hF hc hb h hl hn hk hx hy hlt) h1, (swp_on hx hy (by omega) (by omega) hk (by omega)).trans h2, h3⟩
      · exact ⟨l, iter_last (i52b hE hF hc hb h hl hn hk hx hy hlt) (by simp [so52]), PermOn.refl _ _ _, hI.done hC hx hy hlt⟩
    · exact ⟨l, iter_last (i52c hE hF hc hb h hl hn (by omega)) (by simp [so52]), PermOn.refl _ _ _, fun p q x y hp hpq hq hx hy => hI p q x y hp hpq (by omega) (by omega) hx hy⟩
end
section
variable {a : Code} (h : loopOf 0 Try.f52 = some a) {A B i : Nat} (hn : n ≤ 1000000) (hB : B ≤ n)
include h hn hB
theorem o52a {l l' : List α} (hi : i < B) (hin : ∀ a2, loopOf 2 Try.f52 = some a2 → iter (roundA Try.cfg 52 iter (call Try.cfg) 2 a2) (si52 en F H b ver n l A B i i) = some (.exit 2, so52 en F H b ver n l' A B i)) :
    roundA Try.cfg 52 iter (call Try.cfg) 0 a (so52 en F H b ver n l A B i) = some (.normal, so52 en F H b ver n l' A B (i + 1)) := by
  cases h2 : loopOf 2 Try.f52 with
  | none => cases h2
  | some a2 =>
    have hi2 := hin a2 h2
    cases h
    cases h2
    simp only [si52, so52] at hi2
    simp -implicitDefEqProofs (maxSteps := 1000000) (disch := omega) only [push_cast, ↓dstAt_zero, ↓dstAt_succ, ↓arun_skip, ↓arun_region, ↓arun_seq, ↓arun_cond, ↓arun_block, ↓arun_loop, ↓arun_exit, ↓arun_ret, aops_nil, aops_cons, aops_cons_guard, ↓putA_some, ↓putA_none, ↓aop_move, ↓aop_assign, ↓aop_pick, ↓aop_alloc, ↓aop_box, ↓aop_build, ↓aop_buildSlice, ↓aop_load, ↓aop_store, ↓aop_nilCheck, ↓aop_binOp, ↓aop_unOp, ↓aop_convert, ↓aop_makeSlice, ↓aop_fieldAddr, ↓aop_field, ↓aop_indexAddr, ↓aop_index, ↓aop_lookup, ↓aop_mapUpdate, ↓aop_insert, ↓aop_extract, ↓aop_callB, ↓aop_callF, ↓aop_callT, ↓aop_makeFunc, ↓aop_makeMap, ↓aop_slice, ↓aevs_nil, ↓aevs_cons, ↓evP_nil, ↓evP_cons, ↓aevO_none, ↓aevO_some, ↓reduceIte, reduceCtorEq, Nat.reduceEqDiff, Nat.reduceAdd, Nat.reduceLT, Nat.reduceSub, Nat.reduceMul, Nat.reduceLeDiff, if_true, if_false, if_pos, if_neg, so52, hi2]
theorem o52b {l : List α} (hi : B ≤ i) (hi' : i ≤ n + 1) : roundA Try.cfg 52 iter (call Try.cfg) 0 a (so52 en F H b ver n l A B i) = some (.exit 0, [], hs en H b ver l) := by
  cases h
  simp -implicitDefEqProofs (maxSteps := 1000000) (disch := omega) only [push_cast, ↓dstAt_zero, ↓dstAt_succ, ↓arun_skip, ↓arun_region, ↓arun_seq, ↓arun_cond, ↓arun_block, ↓arun_loop, ↓arun_exit, ↓arun_ret, aops_nil, aops_cons, aops_cons_guard, ↓putA_some, ↓putA_none, ↓aop_move, ↓aop_assign, ↓aop_pick, ↓aop_alloc, ↓aop_box, ↓aop_build, ↓aop_buildSlice, ↓aop_load, ↓aop_store, ↓aop_nilCheck, ↓aop_binOp, ↓aop_unOp, ↓aop_convert, ↓aop_makeSlice, ↓aop_fieldAddr, ↓aop_field, ↓aop_indexAddr, ↓aop_index, ↓aop_lookup, ↓aop_mapUpdate, ↓aop_insert, ↓aop_extract, ↓aop_callB, ↓aop_callF, ↓aop_callT, ↓aop_makeFunc, ↓aop_makeMap, ↓aop_slice, ↓aevs_nil, ↓aevs_cons, ↓evP_nil, ↓evP_cons, ↓aevO_none, ↓aevO_some, ↓reduceIte, reduceCtorEq, Nat.reduceEqDiff, Nat.reduceAdd, Nat.reduceLT, Nat.reduceSub, Nat.reduceMul, Nat.reduceLeDiff, if_true, if_false, if_pos, if_neg, so52]
theorem l52 (hC : Cmp c) : ∀ (k i : Nat) (l : List α), l.length = n → A ≤ i → i + k = B ∨ (k = 0 ∧ B ≤ i ∧ i ≤ n + 1) → SortedOn c A i l →
    ∃ l', iter (roundA Try.cfg 52 iter (call Try.cfg) 0 a) (so52 en F H b ver n l A B i) = some (.exit 0, [], hs en H b ver l') ∧ PermOn A B l l' ∧ SortedOn c A B l'
  | 0, i, l, hl, hA, hk, hs' => by
    refine ⟨l, iter_last (o52b hE hF hc hb h hn hB (by omega) (by omega)) (by simp), PermOn.refl _ _ _, fun p q x y hp hpq hq hx hy => hs' p q x y hp hpq (by omega) hx hy⟩
  | k + 1, i, l, hl, hA, hk, hs' => by
    cases h2 : loopOf 2 Try.f52 with
    | none => cases h2
    | some a2 =>
      obtain ⟨l1, h3, h4, h5⟩ := inner52 (ver := ver) (B := B) hE hF hc hb h2 hn hC (by omega) i l hl hA (Nat.le_refl _) (fun p q x y hp hpq hq hne hx hy => hs' p q x y hp hpq (by omega) hx hy)
      obtain ⟨l', h6, h7, h8⟩ := l52 hC k (i + 1) l1 (by rw [h4.length]; exact hl) (by omega) (by omega) h5
      refine ⟨l', iter_normal (o52a hE hF hc hb h hn hB (by omega) (fun a3 h9 => ?_)) h6, (h4.widen (Nat.le_refl _) (by omega)).trans h7, h8⟩
      rw [h2] at h9
      cases h9
      exact h3
end
theorem call52 (hC : Cmp c) {l : List α} {A B : Nat} (hl : l.length = n) (hn : n ≤ 1000000) (hA : A ≤ B) (hB : B ≤ n) : ∃ l', call Try.cfg 52 [.ms b ver 0 n 1, .v (.int .i64 A), .v (.int .i64 B), .fn F []] (hs en H b ver l) = some (.tu [], hs en H b ver l') ∧ PermOn A B l l' ∧ SortedOn c A B l' := by
  cases hlo : loopOf 0 Try.f52 with
  | none => cases hlo
  | some a =>
    have hbase : SortedOn c A (A + 1) l := fun p q x y hp hpq hq hx hy => by omega
    obtain ⟨l', h1, h2, h3⟩ := l52 (ver := ver) (A := A) (B := B) hE hF hc hb hlo hn hB hC (B - (A + 1)) (A + 1) l hl (by omega) (by omega) hbase
    refine ⟨l', call_step ?_, h2, h3⟩
    cases hlo
    simp only [so52, Int.natCast_add, Int.natCast_one] at h1
    simp -implicitDefEqProofs (maxSteps := 1000000) (disch := omega) only [stepA, bodyA, Try.f52, push_cast, ↓dstAt_zero, ↓dstAt_succ, ↓arun_skip, ↓arun_region, ↓arun_seq, ↓arun_cond, ↓arun_block, ↓arun_loop, ↓arun_exit, ↓arun_ret, aops_nil, aops_cons, aops_cons_guard, ↓putA_some, ↓putA_none, ↓aop_move, ↓aop_assign, ↓aop_pick, ↓aop_alloc, ↓aop_box, ↓aop_build, ↓aop_buildSlice, ↓aop_load, ↓aop_store, ↓aop_nilCheck, ↓aop_binOp, ↓aop_unOp, ↓aop_convert, ↓aop_makeSlice, ↓aop_fieldAddr, ↓aop_field, ↓aop_indexAddr, ↓aop_index, ↓aop_lookup, ↓aop_mapUpdate, ↓aop_insert, ↓aop_extract, ↓aop_callB, ↓aop_callF, ↓aop_callT, ↓aop_makeFunc, ↓aop_makeMap, ↓aop_slice, ↓aevs_nil, ↓aevs_cons, ↓evP_nil, ↓evP_cons, ↓aevO_none, ↓aevO_some, ↓reduceIte, reduceCtorEq, Nat.reduceEqDiff, Nat.reduceAdd, Nat.reduceLT, Nat.reduceSub, Nat.reduceMul, Nat.reduceLeDiff, if_true, if_false, if_pos, if_neg, h1]
end
end Go.Proofs

/- bits.Len, slices.nextPowerOfTwo. -/
set_option linter.unusedVariables false
set_option linter.unusedSimpArgs false
set_option linter.unusedSectionVars false
namespace Go.Proofs
open Go.AI
set_option maxRecDepth 20000
abbrev U (n : Int) : AV := .v (.int .u64 n)
theorem call61 : ((List.range 1024).all fun n => match acallN Try.cfg 3 48 [U (n : Int)] [] with | some (.v (.int .i64 k), []) => decide (0 ≤ k) && decide (n < 2 ^ k.toNat) && (n == 0 || decide (2 ^ k.toNat ≤ 2 * n)) && decide (k ≤ 10) | _ => false) = true := by kernel_rfl
theorem call48 {n : Nat} (h : n < 1024) : ∃ k : Nat, call Try.cfg 48 [.v (.int .u64 n)] [] = some (.v (.int .i64 k), []) ∧ n < 2 ^ k ∧ (0 < n → 2 ^ k ≤ 2 * n) ∧ k ≤ 10 := by
  have h1 := List.all_eq_true.1 call61 n (by simpa using h)
  split at h1
  · rename_i k hk
    simp only [Bool.and_eq_true, decide_eq_true_eq, Bool.or_eq_true, beq_iff_eq] at h1
    obtain ⟨⟨⟨h2, h3⟩, h4⟩, h5⟩ := h1
    refine ⟨k.toNat, ?_, h3, fun h0 => h4.resolve_left (by omega), by omega⟩
    have e : ((k.toNat : Nat) : Int) = k := by omega
    rw [e]
    exact call_run 3 hk
  · cases h1
theorem pow2_le {k : Nat} (h : k ≤ 10) : 2 ^ k ≤ 1024 := Nat.pow_le_pow_right (by omega) h
theorem call64 {n : Nat} (h : n < 1024) (h0 : 0 < n) : ∃ m : Nat, call Try.cfg 64 [.v (.int .i64 n)] [] = some (.v (.int .u64 m), []) ∧ n < m ∧ m ≤ 2 * n ∧ m ≤ 1024 := by
  obtain ⟨k, h1, h2, h3, h4⟩ := call48 h
  have h5 := pow2_le h4
  refine ⟨2 ^ k, call_step ?_, h2, h3 h0, h5⟩
  have e : shlI .u64 1 k = ((2 ^ k : Nat) : Int) := by
    unfold shlI
    have e1 : min (Int.toNat (k : Int)) (IntKind.bits .u64) = k := by
      show min (Int.toNat (k : Int)) 64 = k
      omega
    rw [e1, Int.one_mul]
    have e2 : (2 : Int) ^ k = ((2 ^ k : Nat) : Int) := by simp
    rw [e2]
    exact wrapu (by omega) (by omega)
  have ec := aconv_int Try.prog 3 71 (k' := .i64) (n := n) Try.underlying3 Try.underlying71
  rw [wrapu (by omega) (by omega)] at ec
  simp -implicitDefEqProofs (maxSteps := 1000000) (disch := omega) only [stepA, bodyA, Try.f64, push_cast, ↓dstAt_zero, ↓dstAt_succ, ↓arun_skip, ↓arun_region, ↓arun_seq, ↓arun_cond, ↓arun_block, ↓arun_loop, ↓arun_exit, ↓arun_ret, aops_nil, aops_cons, aops_cons_guard, ↓putA_some, ↓putA_none, ↓aop_move, ↓aop_assign, ↓aop_pick, ↓aop_alloc, ↓aop_box, ↓aop_build, ↓aop_buildSlice, ↓aop_load, ↓aop_store, ↓aop_nilCheck, ↓aop_binOp, ↓aop_unOp, ↓aop_convert, ↓aop_makeSlice, ↓aop_fieldAddr, ↓aop_field, ↓aop_indexAddr, ↓aop_index, ↓aop_lookup, ↓aop_mapUpdate, ↓aop_insert, ↓aop_extract, ↓aop_callB, ↓aop_callF, ↓aop_callT, ↓aop_makeFunc, ↓aop_makeMap, ↓aop_slice, ↓aevs_nil, ↓aevs_cons, ↓evP_nil, ↓evP_cons, ↓aevO_none, ↓aevO_some, ↓reduceIte, reduceCtorEq, Nat.reduceEqDiff, Nat.reduceAdd, Nat.reduceLT, Nat.reduceSub, Nat.reduceMul, Nat.reduceLeDiff, if_true, if_false, if_pos, if_neg, ec, h1, abin_shl, e]
end Go.Proofs

/- slices.reverseRangeCmpFunc, order2, median, medianAdjacent, choosePivot, breakPatterns. -/
set_option linter.unusedVariables false
set_option linter.unusedSimpArgs false
set_option linter.unusedSectionVars false
namespace Go.Proofs
open Go.AI
set_option maxRecDepth 20000
section
variable {α : Type} {en : α → AV} (hE : El en) {c : α → α → Int} {F : FuncId} (hF : Try.cfg.shared F = false) (hc : ∀ x y, call Try.cfg F [en x, en y] [] = some (.v (.int .i64 (c x y)), [])) {H : Heap} {b ver n : Nat} (hb : b < H.length)
include hE hF hc hb
section
variable {a : Code} (h : loopOf 0 Try.f56 = some a) {l : List α} {A i j : Nat} (hl : l.length = n) (hn : n ≤ 1000000)
include h hl hn
omit hE hF hc hb h hl hn in
def s56 (en : α → AV) (H : Heap) (b ver n : Nat) (l : List α) (i j : Nat) : St := ([(0, .ms b ver 0 n 1), (8, I i), (9, I j)], hs en H b ver l)
theorem r56a {k : Nat} (hk : i < k + 1) {x y : α} (hx : l[i]? = some x) (hy : l[k + 1]? = some y) : roundA Try.cfg 56 iter (call Try.cfg) 0 a (s56 en H b ver n l i (k + 1)) = some (.normal, s56 en H b ver n (swp l i (k + 1) x y) (i + 1) k) := by
  cases h
  have h1 := lt_of_get hy
  simp -implicitDefEqProofs (maxSteps := 1000000) (disch := omega) only [push_cast, ↓dstAt_zero, ↓dstAt_succ, ↓arun_skip, ↓arun_region, ↓arun_seq, ↓arun_cond, ↓arun_block, ↓arun_loop, ↓arun_exit, ↓arun_ret, aops_nil, aops_cons, aops_cons_guard, ↓putA_some, ↓putA_none, ↓aop_move, ↓aop_assign, ↓aop_pick, ↓aop_alloc, ↓aop_box, ↓aop_build, ↓aop_buildSlice, ↓aop_load, ↓aop_store, ↓aop_nilCheck, ↓aop_binOp, ↓aop_unOp, ↓aop_convert, ↓aop_makeSlice, ↓aop_fieldAddr, ↓aop_field, ↓aop_indexAddr, ↓aop_index, ↓aop_lookup, ↓aop_mapUpdate, ↓aop_insert, ↓aop_extract, ↓aop_callB, ↓aop_callF, ↓aop_callT, ↓aop_makeFunc, ↓aop_makeMap, ↓aop_slice, ↓aevs_nil, ↓aevs_cons, ↓evP_nil, ↓evP_cons, ↓aevO_none, ↓aevO_some, ↓reduceIte, reduceCtorEq, Nat.reduceEqDiff, Nat.reduceAdd, Nat.reduceLT, Nat.reduceSub, Nat.reduceMul, Nat.reduceLeDiff, if_true, if_false, if_pos, if_neg, s56, hs_get, hs_set, set_en, ↓closeA_en hE, ↓hE.cell, ↓hE.flat, tn1, Int.add_sub_cancel, hx, hy, swp]
theorem r56b (hij : ¬ i < j) : roundA Try.cfg 56 iter (call Try.cfg) 0 a (s56 en H b ver n l i j) = some (.exit 0, [], hs en H b ver l) := by
  cases h
  simp -implicitDefEqProofs (maxSteps := 1000000) (disch := omega) only [push_cast, ↓dstAt_zero, ↓dstAt_succ, ↓arun_skip, ↓arun_region, ↓arun_seq, ↓arun_cond, ↓arun_block, ↓arun_loop, ↓arun_exit, ↓arun_ret, aops_nil, aops_cons, aops_cons_guard, ↓putA_some, ↓putA_none, ↓aop_move, ↓aop_assign, ↓aop_pick, ↓aop_alloc, ↓aop_box, ↓aop_build, ↓aop_buildSlice, ↓aop_load, ↓aop_store, ↓aop_nilCheck, ↓aop_binOp, ↓aop_unOp, ↓aop_convert, ↓aop_makeSlice, ↓aop_fieldAddr, ↓aop_field, ↓aop_indexAddr, ↓aop_index, ↓aop_lookup, ↓aop_mapUpdate, ↓aop_insert, ↓aop_extract, ↓aop_callB, ↓aop_callF, ↓aop_callT, ↓aop_makeFunc, ↓aop_makeMap, ↓aop_slice, ↓aevs_nil, ↓aevs_cons, ↓evP_nil, ↓evP_cons, ↓aevO_none, ↓aevO_some, ↓reduceIte, reduceCtorEq, Nat.reduceEqDiff, Nat.reduceAdd, Nat.reduceLT, Nat.reduceSub, Nat.reduceMul, Nat.reduceLeDiff, if_true, if_false, if_pos, if_neg, s56]
omit hl in
theorem l56 {B : Nat} (hB : B ≤ n) : ∀ (j i : Nat) (l : List α), l.length = n → A ≤ i → j < B → ∃ l', iter (roundA Try.cfg 56 iter (call Try.cfg) 0 a) (s56 en H b ver n l i j) = some (.exit 0, [], hs en H b ver l') ∧ PermOn A B l l'
  | 0, i, l, hl, hA, hj => ⟨l, iter_last (r56b hE hF hc hb h hl hn (by omega)) (by simp), PermOn.refl _ _ _⟩
  | k + 1, i, l, hl, hA, hj => by
    by_cases hk : i < k + 1
    · have hx : l[i]? = some l[i] := List.getElem?_eq_getElem (by omega)
      have hy : l[k + 1]? = some l[k + 1] := List.getElem?_eq_getElem (by omega)
      generalize l[i] = x at hx
      generalize l[k + 1] = y at hy
      obtain ⟨l', h1, h2⟩ := l56 hB k (i + 1) (swp l i (k + 1) x y) (by rw [swp_length]; exact hl) (by omega) (by omega)
      exact ⟨l', iter_normal (r56a hE hF hc hb h hl hn hk hx hy) h1, (swp_on hx hy hA (by omega) (by omega) hj).trans h2⟩
    · exact ⟨l, iter_last (r56b hE hF hc hb h hl hn hk) (by simp), PermOn.refl _ _ _⟩
end
theorem call56 {l : List α} {A B : Nat} (hl : l.length = n) (hn : n ≤ 1000000) (hA : A < B) (hB : B ≤ n) : ∃ l', call Try.cfg 56 [.ms b ver 0 n 1, .v (.int .i64 A), .v (.int .i64 B), .fn F []] (hs en H b ver l) = some (.tu [], hs en H b ver l') ∧ PermOn A B l l' := by
  cases hlo : loopOf 0 Try.f56 with
  | none => cases hlo
  | some a =>
    obtain ⟨B', rfl⟩ : ∃ k, B = k + 1 := ⟨B - 1, by omega⟩
    obtain ⟨l', h1, h2⟩ := l56 (ver := ver) hE hF hc hb hlo hn hB B' A l hl (Nat.le_refl _) (by omega)
    refine ⟨l', call_step ?_, h2⟩
    cases hlo
    simp only [s56] at h1
    simp -implicitDefEqProofs (maxSteps := 1000000) (disch := omega) only [stepA, bodyA, Try.f56, push_cast, ↓dstAt_zero, ↓dstAt_succ, ↓arun_skip, ↓arun_region, ↓arun_seq, ↓arun_cond, ↓arun_block, ↓arun_loop, ↓arun_exit, ↓arun_ret, aops_nil, aops_cons, aops_cons_guard, ↓putA_some, ↓putA_none, ↓aop_move, ↓aop_assign, ↓aop_pick, ↓aop_alloc, ↓aop_box, ↓aop_build, ↓aop_buildSlice, ↓aop_load, ↓aop_store, ↓aop_nilCheck, ↓aop_binOp, ↓aop_unOp, ↓aop_convert, ↓aop_makeSlice, ↓aop_fieldAddr, ↓aop_field, ↓aop_indexAddr, ↓aop_index, ↓aop_lookup, ↓aop_mapUpdate, ↓aop_insert, ↓aop_extract, ↓aop_callB, ↓aop_callF, ↓aop_callT, ↓aop_makeFunc, ↓aop_makeMap, ↓aop_slice, ↓aevs_nil, ↓aevs_cons, ↓evP_nil, ↓evP_cons, ↓aevO_none, ↓aevO_some, ↓reduceIte, reduceCtorEq, Nat.reduceEqDiff, Nat.reduceAdd, Nat.reduceLT, Nat.reduceSub, Nat.reduceMul, Nat.reduceLeDiff, if_true, if_false, if_pos, if_neg, h1, Int.add_sub_cancel]
/-- With a counter in a block of its own. -/
abbrev hw (en : α → AV) (H : Heap) (b ver : Nat) (l : List α) (s : Int) : Heap := hs en (H ++ [.cells true 0 [I s]]) b ver l
theorem call68 {l : List α} {p q : Nat} {s : Int} (h0 : 0 ≤ s) (hl : l.length = n) (hn : n ≤ 1000000) (hp : p < n) (hq : q < n) (hs' : s ≤ 1000) : ∃ (p' q' : Nat) (s' : Int), call Try.cfg 68 [.ms b ver 0 n 1, .v (.int .i64 p), .v (.int .i64 q), .mp H.length 0 0, .fn F []] (hw en H b ver l s) = some (.tu [.v (.int .i64 (p' : Nat)), .v (.int .i64 (q' : Nat))], hw en H b ver l s') ∧ (p' = p ∧ q' = q ∨ p' = q ∧ q' = p) ∧ 0 ≤ s' ∧ s' ≤ s + 1 := by
  have hx : l[p]? = some l[p] := List.getElem?_eq_getElem (by omega)
  have hy : l[q]? = some l[q] := List.getElem?_eq_getElem (by omega)
  generalize l[p] = x at hx
  generalize l[q] = y at hy
  by_cases hlt : c y x < 0
  · refine ⟨q, p, s + 1, call_step ?_, Or.inr ⟨rfl, rfl⟩, by omega, by omega⟩
    simp -implicitDefEqProofs (maxSteps := 1000000) (disch := omega) only [stepA, bodyA, Try.f68, push_cast, ↓dstAt_zero, ↓dstAt_succ, ↓arun_skip, ↓arun_region, ↓arun_seq, ↓arun_cond, ↓arun_block, ↓arun_loop, ↓arun_exit, ↓arun_ret, aops_nil, aops_cons, aops_cons_guard, ↓putA_some, ↓putA_none, ↓aop_move, ↓aop_assign, ↓aop_pick, ↓aop_alloc, ↓aop_box, ↓aop_build, ↓aop_buildSlice, ↓aop_load, ↓aop_store, ↓aop_nilCheck, ↓aop_binOp, ↓aop_unOp, ↓aop_convert, ↓aop_makeSlice, ↓aop_fieldAddr, ↓aop_field, ↓aop_indexAddr, ↓aop_index, ↓aop_lookup, ↓aop_mapUpdate, ↓aop_insert, ↓aop_extract, ↓aop_callB, ↓aop_callF, ↓aop_callT, ↓aop_makeFunc, ↓aop_makeMap, ↓aop_slice, ↓aevs_nil, ↓aevs_cons, ↓evP_nil, ↓evP_cons, ↓aevO_none, ↓aevO_some, ↓reduceIte, reduceCtorEq, Nat.reduceEqDiff, Nat.reduceAdd, Nat.reduceLT, Nat.reduceSub, Nat.reduceMul, Nat.reduceLeDiff, if_true, if_false, if_pos, if_neg, hw, hs_get1, hs_last, hs_setlast, ↓closeA_en hE, hF, hc, hx, hy]
  · refine ⟨p, q, s, call_step ?_, Or.inl ⟨rfl, rfl⟩, by omega, by omega⟩
    simp -implicitDefEqProofs (maxSteps := 1000000) (disch := omega) only [stepA, bodyA, Try.f68, push_cast, ↓dstAt_zero, ↓dstAt_succ, ↓arun_skip, ↓arun_region, ↓arun_seq, ↓arun_cond, ↓arun_block, ↓arun_loop, ↓arun_exit, ↓arun_ret, aops_nil, aops_cons, aops_cons_guard, ↓putA_some, ↓putA_none, ↓aop_move, ↓aop_assign, ↓aop_pick, ↓aop_alloc, ↓aop_box, ↓aop_build, ↓aop_buildSlice, ↓aop_load, ↓aop_store, ↓aop_nilCheck, ↓aop_binOp, ↓aop_unOp, ↓aop_convert, ↓aop_makeSlice, ↓aop_fieldAddr, ↓aop_field, ↓aop_indexAddr, ↓aop_index, ↓aop_lookup, ↓aop_mapUpdate, ↓aop_insert, ↓aop_extract, ↓aop_callB, ↓aop_callF, ↓aop_callT, ↓aop_makeFunc, ↓aop_makeMap, ↓aop_slice, ↓aevs_nil, ↓aevs_cons, ↓evP_nil, ↓evP_cons, ↓aevO_none, ↓aevO_some, ↓reduceIte, reduceCtorEq, Nat.reduceEqDiff, Nat.reduceAdd, Nat.reduceLT, Nat.reduceSub, Nat.reduceMul, Nat.reduceLeDiff, if_true, if_false, if_pos, if_neg, hw, hs_get1, hs_last, hs_setlast, ↓closeA_en hE, hF, hc, hx, hy]
end
end Go.Proofs

/- slices.median, medianAdjacent, choosePivot. -/
set_option linter.unusedVariables false
set_option linter.unusedSimpArgs false
set_option linter.unusedSectionVars false
namespace Go.Proofs
open Go.AI
set_option maxRecDepth 20000
set_option maxHeartbeats 1000000
section
variable {α : Type} {en : α → AV} (hE : El en) {c : α → α → Int} {F : FuncId} (hF : Try.cfg.shared F = false) (hc : ∀ x y, call Try.cfg F [en x, en y] [] = some (.v (.int .i64 (c x y)), [])) {H : Heap} {b ver n : Nat} (hb : b < H.length)
include hE hF hc hb
theorem call67 {l : List α} {p q t : Nat} {s : Int} (h0 : 0 ≤ s) (hl : l.length = n) (hn : n ≤ 1000000) (hp : p < n) (hq : q < n) (ht : t < n) (hs' : s ≤ 900) : ∃ (r : Nat) (s' : Int), call Try.cfg 67 [.ms b ver 0 n 1, .v (.int .i64 p), .v (.int .i64 q), .v (.int .i64 t), .mp H.length 0 0, .fn F []] (hw en H b ver l s) = some (.v (.int .i64 (r : Nat)), hw en H b ver l s') ∧ (r = p ∨ r = q ∨ r = t) ∧ 0 ≤ s' ∧ s' ≤ s + 3 := by
  obtain ⟨p1, q1, s1, e1, d1, jk1, k1⟩ := call68 (ver := ver) hE hF hc hb (by omega) hl hn hp hq (s := s) (by omega)
  obtain ⟨q2, t2, s2, e2, d2, jk2, k2⟩ := call68 (ver := ver) (p := q1) (q := t) hE hF hc hb (by omega) hl hn (by omega) ht (s := s1) (by omega)
  obtain ⟨p3, q3, s3, e3, d3, jk3, k3⟩ := call68 (ver := ver) (p := p1) (q := q2) hE hF hc hb (by omega) hl hn (by omega) (by omega) (s := s2) (by omega)
  refine ⟨q3, s3, call_step ?_, by omega, by omega, by omega⟩
  simp -implicitDefEqProofs (maxSteps := 1000000) (disch := omega) only [stepA, bodyA, Try.f67, push_cast, ↓dstAt_zero, ↓dstAt_succ, ↓arun_skip, ↓arun_region, ↓arun_seq, ↓arun_cond, ↓arun_block, ↓arun_loop, ↓arun_exit, ↓arun_ret, aops_nil, aops_cons, aops_cons_guard, ↓putA_some, ↓putA_none, ↓aop_move, ↓aop_assign, ↓aop_pick, ↓aop_alloc, ↓aop_box, ↓aop_build, ↓aop_buildSlice, ↓aop_load, ↓aop_store, ↓aop_nilCheck, ↓aop_binOp, ↓aop_unOp, ↓aop_convert, ↓aop_makeSlice, ↓aop_fieldAddr, ↓aop_field, ↓aop_indexAddr, ↓aop_index, ↓aop_lookup, ↓aop_mapUpdate, ↓aop_insert, ↓aop_extract, ↓aop_callB, ↓aop_callF, ↓aop_callT, ↓aop_makeFunc, ↓aop_makeMap, ↓aop_slice, ↓aevs_nil, ↓aevs_cons, ↓evP_nil, ↓evP_cons, ↓aevO_none, ↓aevO_some, ↓reduceIte, reduceCtorEq, Nat.reduceEqDiff, Nat.reduceAdd, Nat.reduceLT, Nat.reduceSub, Nat.reduceMul, Nat.reduceLeDiff, if_true, if_false, if_pos, if_neg, e1, e2, e3]
theorem call66 {l : List α} {k : Nat} {s : Int} (h0 : 0 ≤ s) (hl : l.length = n) (hn : n ≤ 1000000) (hp : k + 2 < n) (hs' : s ≤ 900) : ∃ (r : Nat) (s' : Int), call Try.cfg 66 [.ms b ver 0 n 1, .v (.int .i64 ((k : Int) + 1)), .mp H.length 0 0, .fn F []] (hw en H b ver l s) = some (.v (.int .i64 (r : Nat)), hw en H b ver l s') ∧ (k ≤ r ∧ r ≤ k + 2) ∧ 0 ≤ s' ∧ s' ≤ s + 3 := by
  obtain ⟨r, s1, e1, d1, jk1, k1⟩ := call67 (ver := ver) (p := k) (q := k + 1) (t := k + 2) hE hF hc hb (by omega) hl hn (by omega) (by omega) hp (s := s) (by omega)
  refine ⟨r, s1, call_step ?_, by omega, by omega, by omega⟩
  simp only [Int.natCast_add, Int.natCast_one, show ((2 : Nat) : Int) = 2 from rfl] at e1
  have e2 : (k : Int) + 1 + 1 = k + 2 := by omega
  simp -implicitDefEqProofs (maxSteps := 1000000) (disch := omega) only [stepA, bodyA, Try.f66, push_cast, ↓dstAt_zero, ↓dstAt_succ, ↓arun_skip, ↓arun_region, ↓arun_seq, ↓arun_cond, ↓arun_block, ↓arun_loop, ↓arun_exit, ↓arun_ret, aops_nil, aops_cons, aops_cons_guard, ↓putA_some, ↓putA_none, ↓aop_move, ↓aop_assign, ↓aop_pick, ↓aop_alloc, ↓aop_box, ↓aop_build, ↓aop_buildSlice, ↓aop_load, ↓aop_store, ↓aop_nilCheck, ↓aop_binOp, ↓aop_unOp, ↓aop_convert, ↓aop_makeSlice, ↓aop_fieldAddr, ↓aop_field, ↓aop_indexAddr, ↓aop_index, ↓aop_lookup, ↓aop_mapUpdate, ↓aop_insert, ↓aop_extract, ↓aop_callB, ↓aop_callF, ↓aop_callT, ↓aop_makeFunc, ↓aop_makeMap, ↓aop_slice, ↓aevs_nil, ↓aevs_cons, ↓evP_nil, ↓evP_cons, ↓aevO_none, ↓aevO_some, ↓reduceIte, reduceCtorEq, Nat.reduceEqDiff, Nat.reduceAdd, Nat.reduceLT, Nat.reduceSub, Nat.reduceMul, Nat.reduceLeDiff, if_true, if_false, if_pos, if_neg, Int.add_sub_cancel, e1, e2]
theorem call55 {l : List α} {A B : Nat} (hl : l.length = n) (hn : n ≤ 1000000) (hA : A + 12 < B) (hB : B ≤ n) : ∃ (r : Nat) (s : Int) (hint : Int), call Try.cfg 55 [.ms b ver 0 n 1, .v (.int .i64 A), .v (.int .i64 B), .fn F []] (hs en H b ver l) = some (.tu [.v (.int .i64 (r : Nat)), .v (.int .i64 hint)], hw en H b ver l s) ∧ A ≤ r ∧ r < B ∧ (hint = 0 ∨ hint = 1 ∨ hint = 2) := by
  obtain ⟨q, hq⟩ : ∃ q : Nat, q = (B - A) / 4 := ⟨_, rfl⟩
  have hq1 : ((B : Int) - A).tdiv 4 = q := by
    rw [Int.tdiv_eq_ediv_of_nonneg (by omega)]; omega
  have fin : ∀ (r : Nat) (s : Int), A ≤ r → r < B → s ≤ 12 → (∀ hint : Int, hint = (if s = 0 then 1 else if s = 12 then 2 else 0) → stepA Try.cfg iter (call Try.cfg) 55 [.ms b ver 0 n 1, .v (.int .i64 A), .v (.int .i64 B), .fn F []] (hs en H b ver l) = some (.tu [.v (.int .i64 (r : Nat)), .v (.int .i64 hint)], hw en H b ver l s)) →
      ∃ (r : Nat) (s : Int) (hint : Int), call Try.cfg 55 [.ms b ver 0 n 1, .v (.int .i64 A), .v (.int .i64 B), .fn F []] (hs en H b ver l) = some (.tu [.v (.int .i64 (r : Nat)), .v (.int .i64 hint)], hw en H b ver l s) ∧ A ≤ r ∧ r < B ∧ (hint = 0 ∨ hint = 1 ∨ hint = 2) := by
    intro r s h1 h2 h3 h4
    refine ⟨r, s, _, call_step (h4 _ rfl), h1, h2, ?_⟩
    split
    · omega
    · split <;> omega
  by_cases h50 : A + 50 ≤ B
  · obtain ⟨q', rfl⟩ : ∃ k, q = k + 1 := ⟨q - 1, by omega⟩
    obtain ⟨r1, s1, e1, d1, jk1, k1⟩ := call66 (ver := ver) (k := A + q') (s := 0) hE hF hc hb (by omega) hl hn (by omega) (by omega)
    obtain ⟨r2, s2, e2, d2, jk2, k2⟩ := call66 (ver := ver) (k := A + q' * 2 + 1) (s := s1) hE hF hc hb (by omega) hl hn (by omega) (by omega)
    obtain ⟨r3, s3, e3, d3, jk3, k3⟩ := call66 (ver := ver) (k := A + q' * 3 + 2) (s := s2) hE hF hc hb (by omega) hl hn (by omega) (by omega)
    obtain ⟨r, s, e4, d4, jk4, k4⟩ := call67 (ver := ver) (p := r1) (q := r2) (t := r3) (s := s3) hE hF hc hb (by omega) hl hn (by omega) (by omega) (by omega) (by omega)
    refine fin r s (by omega) (by omega) (by omega) fun hint hh => ?_
    have g1 : (A : Int) + ((q' : Int) + 1) * 1 = ((A + q' : Nat) : Int) + 1 := by omega
    have g2 : (A : Int) + ((q' : Int) + 1) * 2 = ((A + q' * 2 + 1 : Nat) : Int) + 1 := by omega
    have g3 : (A : Int) + ((q' : Int) + 1) * 3 = ((A + q' * 3 + 2 : Nat) : Int) + 1 := by omega
    simp only [Int.natCast_add, Int.natCast_one] at hq1
    generalize A + q' = x1 at *
    generalize A + q' * 2 + 1 = x2 at *
    generalize A + q' * 3 + 2 = x3 at *
    subst hh
    by_cases z0 : s = 0
    · rw [if_pos z0]
      simp -implicitDefEqProofs (maxSteps := 1000000) (disch := omega) only [stepA, bodyA, Try.f55, push_cast, ↓dstAt_zero, ↓dstAt_succ, ↓arun_skip, ↓arun_region, ↓arun_seq, ↓arun_cond, ↓arun_block, ↓arun_loop, ↓arun_exit, ↓arun_ret, aops_nil, aops_cons, aops_cons_guard, ↓putA_some, ↓putA_none, ↓aop_move, ↓aop_assign, ↓aop_pick, ↓aop_alloc, ↓aop_box, ↓aop_build, ↓aop_buildSlice, ↓aop_load, ↓aop_store, ↓aop_nilCheck, ↓aop_binOp, ↓aop_unOp, ↓aop_convert, ↓aop_makeSlice, ↓aop_fieldAddr, ↓aop_field, ↓aop_indexAddr, ↓aop_index, ↓aop_lookup, ↓aop_mapUpdate, ↓aop_insert, ↓aop_extract, ↓aop_callB, ↓aop_callF, ↓aop_callT, ↓aop_makeFunc, ↓aop_makeMap, ↓aop_slice, ↓aevs_nil, ↓aevs_cons, ↓evP_nil, ↓evP_cons, ↓aevO_none, ↓aevO_some, ↓reduceIte, reduceCtorEq, Nat.reduceEqDiff, Nat.reduceAdd, Nat.reduceLT, Nat.reduceSub, Nat.reduceMul, Nat.reduceLeDiff, if_true, if_false, if_pos, if_neg, hw, hs_app, hs_len, hs_get1, hs_last, hs_setlast, abin_quo, hq1, g1, g2, g3, e1, e2, e3, e4]
    · by_cases z1 : s = 12
      · rw [if_neg z0, if_pos z1]
        simp -implicitDefEqProofs (maxSteps := 1000000) (disch := omega) only [stepA, bodyA, Try.f55, push_cast, ↓dstAt_zero, ↓dstAt_succ, ↓arun_skip, ↓arun_region, ↓arun_seq, ↓arun_cond, ↓arun_block, ↓arun_loop, ↓arun_exit, ↓arun_ret, aops_nil, aops_cons, aops_cons_guard, ↓putA_some, ↓putA_none, ↓aop_move, ↓aop_assign, ↓aop_pick, ↓aop_alloc, ↓aop_box, ↓aop_build, ↓aop_buildSlice, ↓aop_load, ↓aop_store, ↓aop_nilCheck, ↓aop_binOp, ↓aop_unOp, ↓aop_convert, ↓aop_makeSlice, ↓aop_fieldAddr, ↓aop_field, ↓aop_indexAddr, ↓aop_index, ↓aop_lookup, ↓aop_mapUpdate, ↓aop_insert, ↓aop_extract, ↓aop_callB, ↓aop_callF, ↓aop_callT, ↓aop_makeFunc, ↓aop_makeMap, ↓aop_slice, ↓aevs_nil, ↓aevs_cons, ↓evP_nil, ↓evP_cons, ↓aevO_none, ↓aevO_some, ↓reduceIte, reduceCtorEq, Nat.reduceEqDiff, Nat.reduceAdd, Nat.reduceLT, Nat.reduceSub, Nat.reduceMul, Nat.reduceLeDiff, if_true, if_false, if_pos, if_neg, hw, hs_app, hs_len, hs_get1, hs_last, hs_setlast, abin_quo, hq1, g1, g2, g3, e1, e2, e3, e4]
      · rw [if_neg z0, if_neg z1]
        simp -implicitDefEqProofs (maxSteps := 1000000) (disch := omega) only [stepA, bodyA, Try.f55, push_cast, ↓dstAt_zero, ↓dstAt_succ, ↓arun_skip, ↓arun_region, ↓arun_seq, ↓arun_cond, ↓arun_block, ↓arun_loop, ↓arun_exit, ↓arun_ret, aops_nil, aops_cons, aops_cons_guard, ↓putA_some, ↓putA_none, ↓aop_move, ↓aop_assign, ↓aop_pick, ↓aop_alloc, ↓aop_box, ↓aop_build, ↓aop_buildSlice, ↓aop_load, ↓aop_store, ↓aop_nilCheck, ↓aop_binOp, ↓aop_unOp, ↓aop_convert, ↓aop_makeSlice, ↓aop_fieldAddr, ↓aop_field, ↓aop_indexAddr, ↓aop_index, ↓aop_lookup, ↓aop_mapUpdate, ↓aop_insert, ↓aop_extract, ↓aop_callB, ↓aop_callF, ↓aop_callT, ↓aop_makeFunc, ↓aop_makeMap, ↓aop_slice, ↓aevs_nil, ↓aevs_cons, ↓evP_nil, ↓evP_cons, ↓aevO_none, ↓aevO_some, ↓reduceIte, reduceCtorEq, Nat.reduceEqDiff, Nat.reduceAdd, Nat.reduceLT, Nat.reduceSub, Nat.reduceMul, Nat.reduceLeDiff, if_true, if_false, if_pos, if_neg, hw, hs_app, hs_len, hs_get1, hs_last, hs_setlast, abin_quo, hq1, g1, g2, g3, e1, e2, e3, e4]
  · obtain ⟨r, s, e4, d4, jk4, k4⟩ := call67 (ver := ver) (p := A + q) (q := A + q * 2) (t := A + q * 3) (s := 0) hE hF hc hb (by omega) hl hn (by omega) (by omega) (by omega) (by omega)
    refine fin r s (by omega) (by omega) (by omega) fun hint hh => ?_
    have g1 : (A : Int) + (q : Int) * 1 = ((A + q : Nat) : Int) := by omega
    have g2 : (A : Int) + (q : Int) * 2 = ((A + q * 2 : Nat) : Int) := by omega
    have g3 : (A : Int) + (q : Int) * 3 = ((A + q * 3 : Nat) : Int) := by omega
    generalize A + q = x1 at *
    generalize A + q * 2 = x2 at *
    generalize A + q * 3 = x3 at *
    subst hh
    by_cases z0 : s = 0
    · rw [if_pos z0]
      simp -implicitDefEqProofs (maxSteps := 1000000) (disch := omega) only [stepA, bodyA, Try.f55, push_cast, ↓dstAt_zero, ↓dstAt_succ, ↓arun_skip, ↓arun_region, ↓arun_seq, ↓arun_cond, ↓arun_block, ↓arun_loop, ↓arun_exit, ↓arun_ret, aops_nil, aops_cons, aops_cons_guard, ↓putA_some, ↓putA_none, ↓aop_move, ↓aop_assign, ↓aop_pick, ↓aop_alloc, ↓aop_box, ↓aop_build, ↓aop_buildSlice, ↓aop_load, ↓aop_store, ↓aop_nilCheck, ↓aop_binOp, ↓aop_unOp, ↓aop_convert, ↓aop_makeSlice, ↓aop_fieldAddr, ↓aop_field, ↓aop_indexAddr, ↓aop_index, ↓aop_lookup, ↓aop_mapUpdate, ↓aop_insert, ↓aop_extract, ↓aop_callB, ↓aop_callF, ↓aop_callT, ↓aop_makeFunc, ↓aop_makeMap, ↓aop_slice, ↓aevs_nil, ↓aevs_cons, ↓evP_nil, ↓evP_cons, ↓aevO_none, ↓aevO_some, ↓reduceIte, reduceCtorEq, Nat.reduceEqDiff, Nat.reduceAdd, Nat.reduceLT, Nat.reduceSub, Nat.reduceMul, Nat.reduceLeDiff, if_true, if_false, if_pos, if_neg, hw, hs_app, hs_len, hs_get1, hs_last, hs_setlast, abin_quo, hq1, g1, g2, g3, e4]
    · have z1 : s ≠ 12 := by omega
      rw [if_neg z0, if_neg z1]
      simp -implicitDefEqProofs (maxSteps := 1000000) (disch := omega) only [stepA, bodyA, Try.f55, push_cast, ↓dstAt_zero, ↓dstAt_succ, ↓arun_skip, ↓arun_region, ↓arun_seq, ↓arun_cond, ↓arun_block, ↓arun_loop, ↓arun_exit, ↓arun_ret, aops_nil, aops_cons, aops_cons_guard, ↓putA_some, ↓putA_none, ↓aop_move, ↓aop_assign, ↓aop_pick, ↓aop_alloc, ↓aop_box, ↓aop_build, ↓aop_buildSlice, ↓aop_load, ↓aop_store, ↓aop_nilCheck, ↓aop_binOp, ↓aop_unOp, ↓aop_convert, ↓aop_makeSlice, ↓aop_fieldAddr, ↓aop_field, ↓aop_indexAddr, ↓aop_index, ↓aop_lookup, ↓aop_mapUpdate, ↓aop_insert, ↓aop_extract, ↓aop_callB, ↓aop_callF, ↓aop_callT, ↓aop_makeFunc, ↓aop_makeMap, ↓aop_slice, ↓aevs_nil, ↓aevs_cons, ↓evP_nil, ↓evP_cons, ↓aevO_none, ↓aevO_some, ↓reduceIte, reduceCtorEq, Nat.reduceEqDiff, Nat.reduceAdd, Nat.reduceLT, Nat.reduceSub, Nat.reduceMul, Nat.reduceLeDiff, if_true, if_false, if_pos, if_neg, hw, hs_app, hs_len, hs_get1, hs_last, hs_setlast, abin_quo, hq1, g1, g2, g3, e4]
end
end Go.Proofs

/- slices.breakPatterns. -/
set_option linter.unusedVariables false
set_option linter.unusedSimpArgs false
set_option linter.unusedSectionVars false
namespace Go.Proofs
open Go.AI
set_option maxRecDepth 20000
set_option maxHeartbeats 1000000
/-- The next number of a row. -/
def nxt1 (x : Int) : Int := xorI .u64 x (shlI .u64 x 13)
def nxt2 (x : Int) : Int := xorI .u64 x (shrI .u64 x 7)
def nxt3 (x : Int) : Int := xorI .u64 x (shlI .u64 x 17)
abbrev hu {α : Type} (en : α → AV) (H : Heap) (b ver : Nat) (l : List α) (x : Int) : Heap := hs en (H ++ [.cells true 0 [U x]]) b ver l
section
variable {α : Type} {en : α → AV} (hE : El en) {H : Heap} {b ver n : Nat} (hb : b < H.length)
include hE hb
theorem call65 (l : List α) (x : Int) : call Try.cfg 65 [.mp H.length 0 0] (hu en H b ver l x) = some (U (nxt3 (nxt2 (nxt1 x))), hu en H b ver l (nxt3 (nxt2 (nxt1 x)))) := by
  refine call_step ?_
  simp -implicitDefEqProofs (maxSteps := 1000000) (disch := omega) only [stepA, bodyA, Try.f65, push_cast, ↓dstAt_zero, ↓dstAt_succ, ↓arun_skip, ↓arun_region, ↓arun_seq, ↓arun_cond, ↓arun_block, ↓arun_loop, ↓arun_exit, ↓arun_ret, aops_nil, aops_cons, aops_cons_guard, ↓putA_some, ↓putA_none, ↓aop_move, ↓aop_assign, ↓aop_pick, ↓aop_alloc, ↓aop_box, ↓aop_build, ↓aop_buildSlice, ↓aop_load, ↓aop_store, ↓aop_nilCheck, ↓aop_binOp, ↓aop_unOp, ↓aop_convert, ↓aop_makeSlice, ↓aop_fieldAddr, ↓aop_field, ↓aop_indexAddr, ↓aop_index, ↓aop_lookup, ↓aop_mapUpdate, ↓aop_insert, ↓aop_extract, ↓aop_callB, ↓aop_callF, ↓aop_callT, ↓aop_makeFunc, ↓aop_makeMap, ↓aop_slice, ↓aevs_nil, ↓aevs_cons, ↓evP_nil, ↓evP_cons, ↓aevO_none, ↓aevO_some, ↓reduceIte, reduceCtorEq, Nat.reduceEqDiff, Nat.reduceAdd, Nat.reduceLT, Nat.reduceSub, Nat.reduceMul, Nat.reduceLeDiff, if_true, if_false, if_pos, if_neg, hu, hs_last, hs_setlast, abin_shl, abin_shr, abin_xor, nxt1, nxt2, nxt3]
section
variable {a : Code} (h : loopOf 0 Try.f54 = some a) {l : List α} {A L m i : Nat} {x : Int} (hl : l.length = n) (hn : n ≤ 1000000) (hL : 8 ≤ L) (hAL : A + L ≤ n) (hm : L < m) (hm' : m ≤ 2 * L)
include h hl hn hL hAL hm hm'
omit hE hb h hl hn hL hAL hm hm' in
def s54 (en : α → AV) (H : Heap) (b ver n : Nat) (l : List α) (A L m i : Nat) (x : Int) : St := ([(0, .ms b ver 0 n 1), (1, I A), (8, I L), (9, .mp H.length 0 0), (10, U m), (11, I i)], hu en H b ver l x)
theorem r54b (hi : A + L / 4 * 2 + 1 < i) (hi' : i ≤ n + 1) : roundA Try.cfg 54 iter (call Try.cfg) 0 a (s54 en H b ver n l A L m i x) = some (.exit 0, [], hu en H b ver l x) := by
  cases h
  obtain ⟨q, hq⟩ : ∃ q : Nat, q = L / 4 := ⟨_, rfl⟩
  rw [← hq] at hi
  have hq1 : ((L : Int)).tdiv 4 = q := by
    rw [Int.tdiv_eq_ediv_of_nonneg (by omega)]; omega
  simp -implicitDefEqProofs (maxSteps := 1000000) (disch := omega) only [push_cast, ↓dstAt_zero, ↓dstAt_succ, ↓arun_skip, ↓arun_region, ↓arun_seq, ↓arun_cond, ↓arun_block, ↓arun_loop, ↓arun_exit, ↓arun_ret, aops_nil, aops_cons, aops_cons_guard, ↓putA_some, ↓putA_none, ↓aop_move, ↓aop_assign, ↓aop_pick, ↓aop_alloc, ↓aop_box, ↓aop_build, ↓aop_buildSlice, ↓aop_load, ↓aop_store, ↓aop_nilCheck, ↓aop_binOp, ↓aop_unOp, ↓aop_convert, ↓aop_makeSlice, ↓aop_fieldAddr, ↓aop_field, ↓aop_indexAddr, ↓aop_index, ↓aop_lookup, ↓aop_mapUpdate, ↓aop_insert, ↓aop_extract, ↓aop_callB, ↓aop_callF, ↓aop_callT, ↓aop_makeFunc, ↓aop_makeMap, ↓aop_slice, ↓aevs_nil, ↓aevs_cons, ↓evP_nil, ↓evP_cons, ↓aevO_none, ↓aevO_some, ↓reduceIte, reduceCtorEq, Nat.reduceEqDiff, Nat.reduceAdd, Nat.reduceLT, Nat.reduceSub, Nat.reduceMul, Nat.reduceLeDiff, if_true, if_false, if_pos, if_neg, s54, hu, abin_quo, hq1]
theorem r54a (hi : i ≤ A + L / 4 * 2 + 1) (hi' : A ≤ i) : ∃ l' x', roundA Try.cfg 54 iter (call Try.cfg) 0 a (s54 en H b ver n l A L m i x) = some (.normal, s54 en H b ver n l' A L m (i + 1) x') ∧ PermOn A (A + L) l l' := by
  cases h
  obtain ⟨q, hq⟩ : ∃ q : Nat, q = L / 4 := ⟨_, rfl⟩
  rw [← hq] at hi
  have hq1 : ((L : Int)).tdiv 4 = q := by
    rw [Int.tdiv_eq_ediv_of_nonneg (by omega)]; omega
  have h65 := call65 (ver := ver) hE hb l x
  generalize nxt3 (nxt2 (nxt1 x)) = x' at *
  have ho := andI_le (a := x') (b := (m : Int) - 1) (by omega) (by omega)
  obtain ⟨w, hw⟩ : ∃ w : Nat, andI .u64 x' ((m : Int) - 1) = w := ⟨(andI .u64 x' ((m : Int) - 1)).toNat, by omega⟩
  rw [hw] at ho
  have ec := aconv_int Try.prog 71 3 (k' := .u64) (n := w) Try.underlying71 Try.underlying3
  rw [wrap64 (by omega) (by omega)] at ec
  have hx : l[i]? = some l[i] := List.getElem?_eq_getElem (by omega)
  generalize l[i] = u at hx
  by_cases hwL : L ≤ w
  · obtain ⟨v, hv⟩ : ∃ v : Nat, v = w - L := ⟨_, rfl⟩
    have hv1 : (w : Int) - L = v := by omega
    have ht : ((A : Int) + v).toNat = A + v := by omega
    have hy : l[A + v]? = some l[A + v] := List.getElem?_eq_getElem (by omega)
    generalize l[A + v] = y at hy
    refine ⟨swp l i (A + v) u y, x', ?_, swp_on hx hy hi' (by omega) (by omega) (by omega)⟩
    simp -implicitDefEqProofs (maxSteps := 1000000) (disch := omega) only [push_cast, ↓dstAt_zero, ↓dstAt_succ, ↓arun_skip, ↓arun_region, ↓arun_seq, ↓arun_cond, ↓arun_block, ↓arun_loop, ↓arun_exit, ↓arun_ret, aops_nil, aops_cons, aops_cons_guard, ↓putA_some, ↓putA_none, ↓aop_move, ↓aop_assign, ↓aop_pick, ↓aop_alloc, ↓aop_box, ↓aop_build, ↓aop_buildSlice, ↓aop_load, ↓aop_store, ↓aop_nilCheck, ↓aop_binOp, ↓aop_unOp, ↓aop_convert, ↓aop_makeSlice, ↓aop_fieldAddr, ↓aop_field, ↓aop_indexAddr, ↓aop_index, ↓aop_lookup, ↓aop_mapUpdate, ↓aop_insert, ↓aop_extract, ↓aop_callB, ↓aop_callF, ↓aop_callT, ↓aop_makeFunc, ↓aop_makeMap, ↓aop_slice, ↓aevs_nil, ↓aevs_cons, ↓evP_nil, ↓evP_cons, ↓aevO_none, ↓aevO_some, ↓reduceIte, reduceCtorEq, Nat.reduceEqDiff, Nat.reduceAdd, Nat.reduceLT, Nat.reduceSub, Nat.reduceMul, Nat.reduceLeDiff, if_true, if_false, if_pos, if_neg, s54, hu, hs_get1, hs_set, set_en, ↓hE.cell, ↓hE.flat, abin_quo, hq1, h65, abin_and, wrapu, hw, ec, hv1, ht, hx, hy, swp]
  · have ht : ((A : Int) + w).toNat = A + w := by omega
    have hy : l[A + w]? = some l[A + w] := List.getElem?_eq_getElem (by omega)
    generalize l[A + w] = y at hy
    refine ⟨swp l i (A + w) u y, x', ?_, swp_on hx hy hi' (by omega) (by omega) (by omega)⟩
    simp -implicitDefEqProofs (maxSteps := 1000000) (disch := omega) only [push_cast, ↓dstAt_zero, ↓dstAt_succ, ↓arun_skip, ↓arun_region, ↓arun_seq, ↓arun_cond, ↓arun_block, ↓arun_loop, ↓arun_exit, ↓arun_ret, aops_nil, aops_cons, aops_cons_guard, ↓putA_some, ↓putA_none, ↓aop_move, ↓aop_assign, ↓aop_pick, ↓aop_alloc, ↓aop_box, ↓aop_build, ↓aop_buildSlice, ↓aop_load, ↓aop_store, ↓aop_nilCheck, ↓aop_binOp, ↓aop_unOp, ↓aop_convert, ↓aop_makeSlice, ↓aop_fieldAddr, ↓aop_field, ↓aop_indexAddr, ↓aop_index, ↓aop_lookup, ↓aop_mapUpdate, ↓aop_insert, ↓aop_extract, ↓aop_callB, ↓aop_callF, ↓aop_callT, ↓aop_makeFunc, ↓aop_makeMap, ↓aop_slice, ↓aevs_nil, ↓aevs_cons, ↓evP_nil, ↓evP_cons, ↓aevO_none, ↓aevO_some, ↓reduceIte, reduceCtorEq, Nat.reduceEqDiff, Nat.reduceAdd, Nat.reduceLT, Nat.reduceSub, Nat.reduceMul, Nat.reduceLeDiff, if_true, if_false, if_pos, if_neg, s54, hu, hs_get1, hs_set, set_en, ↓hE.cell, ↓hE.flat, abin_quo, hq1, h65, abin_and, wrapu, hw, ec, ht, hx, hy, swp]
omit hl in
theorem l54 : ∀ (k i : Nat) (l : List α) (x : Int), l.length = n → A ≤ i → i + k = A + L / 4 * 2 + 2 → ∃ l' x', iter (roundA Try.cfg 54 iter (call Try.cfg) 0 a) (s54 en H b ver n l A L m i x) = some (.exit 0, [], hu en H b ver l' x') ∧ PermOn A (A + L) l l'
  | 0, i, l, x, hl, hi, hk => ⟨l, x, iter_last (r54b hE hb h hl hn hL hAL hm hm' (by omega) (by omega)) (by simp), PermOn.refl _ _ _⟩
  | k + 1, i, l, x, hl, hi, hk => by
    obtain ⟨l1, x1, h1, h2⟩ := r54a (x := x) (ver := ver) hE hb h hl hn hL hAL hm hm' (i := i) (by omega) hi
    obtain ⟨l', x', h3, h4⟩ := l54 k (i + 1) l1 x1 (by rw [h2.length]; exact hl) (by omega) (by omega)
    exact ⟨l', x', iter_normal h1 h3, h2.trans h4⟩
end
theorem call54 {l : List α} {A B : Nat} {F : FuncId} (hl : l.length = n) (hn : n ≤ 1000) (hA : A + 12 < B) (hB : B ≤ n) : ∃ l' x', call Try.cfg 54 [.ms b ver 0 n 1, .v (.int .i64 A), .v (.int .i64 B), .fn F []] (hs en H b ver l) = some (.tu [], hu en H b ver l' x') ∧ PermOn A B l l' := by
  cases hlo : loopOf 0 Try.f54 with
  | none => cases hlo
  | some a =>
    obtain ⟨L, rfl⟩ : ∃ L, B = A + L := ⟨B - A, by omega⟩
    obtain ⟨m, hm1, hm2, hm3, hm4⟩ := call64 (n := L) (by omega) (by omega)
    obtain ⟨q, hq⟩ : ∃ q : Nat, q = L / 4 := ⟨_, rfl⟩
    have hq1 : ((L : Int)).tdiv 4 = q := by
      rw [Int.tdiv_eq_ediv_of_nonneg (by omega)]; omega
    obtain ⟨q', hq'⟩ : ∃ q', q = q' + 1 := ⟨q - 1, by omega⟩
    obtain ⟨l', x', h1, h2⟩ := l54 (ver := ver) hE hb hlo (n := n) (L := L) (m := m) (by omega) (by omega) (by omega) hm2 (by omega) 3 (A + q' * 2 + 1) l (L : Int) hl (by omega) (by omega)
    refine ⟨l', x', call_step ?_, h2⟩
    cases hlo
    have e1 : (A : Int) + (q : Int) * 2 - 1 = ((A + q' * 2 + 1 : Nat) : Int) := by omega
    have e2 : ((A + L : Nat) : Int) - A = L := by omega
    have ec := aconv_int Try.prog 3 85 (k' := .i64) (n := L) Try.underlying3 Try.underlying85
    rw [wrapu (by omega) (by omega)] at ec
    simp only [s54] at h1
    generalize A + q' * 2 + 1 = i0 at *
    generalize hAL : A + L = B at *
    simp -implicitDefEqProofs (maxSteps := 1000000) (disch := omega) only [stepA, bodyA, Try.f54, push_cast, ↓dstAt_zero, ↓dstAt_succ, ↓arun_skip, ↓arun_region, ↓arun_seq, ↓arun_cond, ↓arun_block, ↓arun_loop, ↓arun_exit, ↓arun_ret, aops_nil, aops_cons, aops_cons_guard, ↓putA_some, ↓putA_none, ↓aop_move, ↓aop_assign, ↓aop_pick, ↓aop_alloc, ↓aop_box, ↓aop_build, ↓aop_buildSlice, ↓aop_load, ↓aop_store, ↓aop_nilCheck, ↓aop_binOp, ↓aop_unOp, ↓aop_convert, ↓aop_makeSlice, ↓aop_fieldAddr, ↓aop_field, ↓aop_indexAddr, ↓aop_index, ↓aop_lookup, ↓aop_mapUpdate, ↓aop_insert, ↓aop_extract, ↓aop_callB, ↓aop_callF, ↓aop_callT, ↓aop_makeFunc, ↓aop_makeMap, ↓aop_slice, ↓aevs_nil, ↓aevs_cons, ↓evP_nil, ↓evP_cons, ↓aevO_none, ↓aevO_some, ↓reduceIte, reduceCtorEq, Nat.reduceEqDiff, Nat.reduceAdd, Nat.reduceLT, Nat.reduceSub, Nat.reduceMul, Nat.reduceLeDiff, if_true, if_false, if_pos, if_neg, hu, hs_app, hs_len, hs_get1, hs_last, hs_setlast, abin_quo, hq1, e1, e2, ec, hm1, h1]
end
end Go.Proofs
