/- Ints, Equal, Lists, few. -/
import Derived.Test.YtdodfimekcoclaaAiSeat
import Derived.Test.YtdodfimekcoclaaAiSym
set_option linter.unusedVariables false
set_option linter.unusedSimpArgs false
set_option linter.unusedSectionVars false
namespace Go.Proofs
open Go.AI
set_option maxRecDepth 20000
section
variable {a : Code} (h : loopOf 0 Try.f20 = some a) {A C : List Int} (hA : A.length ≤ 1000000) (hC : C.length = A.length)
include h hA hC
def st20 (A C : List Int) (i : Nat) : St := ([(0, Is A), (1, Is C), (5, I i)], [])
theorem r20a {i : Nat} (hi : i < A.length) (hq : decide (A.getD i 0 = C.getD i 0) = true) : roundA Try.cfg 20 iter (call Try.cfg) 0 a (st20 A C i) = some (.normal, st20 A C (i + 1)) := by
  cases h
  have hx : A[i]? = some (A.getD i 0) := by simp [hi]
  have hy : C[i]? = some (C.getD i 0) := by simp [hi, hC]
  have he := of_decide_eq_true hq
  simp -implicitDefEqProofs (disch := omega) only [push_cast, ↓dstAt_zero, ↓dstAt_succ, ↓arun_skip, ↓arun_region, ↓arun_seq, ↓arun_cond, ↓arun_block, ↓arun_loop, ↓arun_exit, ↓arun_ret, aops_nil, aops_cons, aops_cons_guard, ↓putA_some, ↓putA_none, ↓aop_move, ↓aop_assign, ↓aop_pick, ↓aop_alloc, ↓aop_box, ↓aop_build, ↓aop_buildSlice, ↓aop_load, ↓aop_store, ↓aop_nilCheck, ↓aop_binOp, ↓aop_unOp, ↓aop_convert, ↓aop_makeSlice, ↓aop_fieldAddr, ↓aop_field, ↓aop_indexAddr, ↓aop_index, ↓aop_lookup, ↓aop_mapUpdate, ↓aop_insert, ↓aop_extract, ↓aop_callB, ↓aop_callF, ↓aop_callT, ↓aop_makeFunc, ↓aop_makeMap, ↓aop_slice, ↓aevs_nil, ↓aevs_cons, ↓evP_nil, ↓evP_cons, ↓aevO_none, ↓aevO_some, ↓reduceIte, reduceCtorEq, Nat.reduceEqDiff, Nat.reduceAdd, Nat.reduceLT, Nat.reduceSub, Nat.reduceMul, Nat.reduceLeDiff, if_true, if_false, if_pos, if_neg, st20, hx, hy]
  try rfl
theorem r20b {i : Nat} (hi : i < A.length) (hq : decide (A.getD i 0 = C.getD i 0) = false) : roundA Try.cfg 20 iter (call Try.cfg) 0 a (st20 A C i) = some (.ret, [(4, B false)], []) := by
  cases h
  have hx : A[i]? = some (A.getD i 0) := by simp [hi]
  have hy : C[i]? = some (C.getD i 0) := by simp [hi, hC]
  have he := of_decide_eq_false hq
  simp -implicitDefEqProofs (disch := omega) only [push_cast, ↓dstAt_zero, ↓dstAt_succ, ↓arun_skip, ↓arun_region, ↓arun_seq, ↓arun_cond, ↓arun_block, ↓arun_loop, ↓arun_exit, ↓arun_ret, aops_nil, aops_cons, aops_cons_guard, ↓putA_some, ↓putA_none, ↓aop_move, ↓aop_assign, ↓aop_pick, ↓aop_alloc, ↓aop_box, ↓aop_build, ↓aop_buildSlice, ↓aop_load, ↓aop_store, ↓aop_nilCheck, ↓aop_binOp, ↓aop_unOp, ↓aop_convert, ↓aop_makeSlice, ↓aop_fieldAddr, ↓aop_field, ↓aop_indexAddr, ↓aop_index, ↓aop_lookup, ↓aop_mapUpdate, ↓aop_insert, ↓aop_extract, ↓aop_callB, ↓aop_callF, ↓aop_callT, ↓aop_makeFunc, ↓aop_makeMap, ↓aop_slice, ↓aevs_nil, ↓aevs_cons, ↓evP_nil, ↓evP_cons, ↓aevO_none, ↓aevO_some, ↓reduceIte, reduceCtorEq, Nat.reduceEqDiff, Nat.reduceAdd, Nat.reduceLT, Nat.reduceSub, Nat.reduceMul, Nat.reduceLeDiff, if_true, if_false, if_pos, if_neg, st20, hx, hy]
theorem r20c : roundA Try.cfg 20 iter (call Try.cfg) 0 a (st20 A C A.length) = some (.exit 0, [], []) := by
  cases h
  simp -implicitDefEqProofs (disch := omega) only [push_cast, ↓dstAt_zero, ↓dstAt_succ, ↓arun_skip, ↓arun_region, ↓arun_seq, ↓arun_cond, ↓arun_block, ↓arun_loop, ↓arun_exit, ↓arun_ret, aops_nil, aops_cons, aops_cons_guard, ↓putA_some, ↓putA_none, ↓aop_move, ↓aop_assign, ↓aop_pick, ↓aop_alloc, ↓aop_box, ↓aop_build, ↓aop_buildSlice, ↓aop_load, ↓aop_store, ↓aop_nilCheck, ↓aop_binOp, ↓aop_unOp, ↓aop_convert, ↓aop_makeSlice, ↓aop_fieldAddr, ↓aop_field, ↓aop_indexAddr, ↓aop_index, ↓aop_lookup, ↓aop_mapUpdate, ↓aop_insert, ↓aop_extract, ↓aop_callB, ↓aop_callF, ↓aop_callT, ↓aop_makeFunc, ↓aop_makeMap, ↓aop_slice, ↓aevs_nil, ↓aevs_cons, ↓evP_nil, ↓evP_cons, ↓aevO_none, ↓aevO_some, ↓reduceIte, reduceCtorEq, Nat.reduceEqDiff, Nat.reduceAdd, Nat.reduceLT, Nat.reduceSub, Nat.reduceMul, Nat.reduceLeDiff, if_true, if_false, if_pos, if_neg, st20]
end
theorem call20 {A C : List Int} (hA : A.length ≤ 1000000) (hC : C.length ≤ 1000000) : call Try.cfg 20 [Is A, Is C] [] = some (B (decide (A = C)), []) := by
  refine call_step ?_
  by_cases hl : C.length = A.length
  · cases hlo : loopOf 0 Try.f20 with
    | none => cases hlo
    | some a =>
      have hH := iter_all (S := fun i => st20 A C i) (q := fun i => decide (A.getD i 0 = C.getD i 0)) (fun i hi hq => r20a hlo hA hl hi hq) (fun i hi hq => r20b hlo hA hl hi hq) (r20c hlo hA hl) (by simp) (by simp) A.length 0 (by omega)
      cases hlo
      rw [all_eq 0 hl.symm] at hH
      simp only [st20, Is, Int.natCast_zero] at hH
      cases hd : decide (A = C) with
      | true =>
        rw [hd, if_pos rfl] at hH
        simp -implicitDefEqProofs (disch := omega) only [stepA, bodyA, Try.cfgO, Try.sh20, Try.func20, Try.f20, push_cast, ↓dstAt_zero, ↓dstAt_succ, ↓arun_skip, ↓arun_region, ↓arun_seq, ↓arun_cond, ↓arun_block, ↓arun_loop, ↓arun_exit, ↓arun_ret, aops_nil, aops_cons, aops_cons_guard, ↓putA_some, ↓putA_none, ↓aop_move, ↓aop_assign, ↓aop_pick, ↓aop_alloc, ↓aop_box, ↓aop_build, ↓aop_buildSlice, ↓aop_load, ↓aop_store, ↓aop_nilCheck, ↓aop_binOp, ↓aop_unOp, ↓aop_convert, ↓aop_makeSlice, ↓aop_fieldAddr, ↓aop_field, ↓aop_indexAddr, ↓aop_index, ↓aop_lookup, ↓aop_mapUpdate, ↓aop_insert, ↓aop_extract, ↓aop_callB, ↓aop_callF, ↓aop_callT, ↓aop_makeFunc, ↓aop_makeMap, ↓aop_slice, ↓aevs_nil, ↓aevs_cons, ↓evP_nil, ↓evP_cons, ↓aevO_none, ↓aevO_some, ↓reduceIte, reduceCtorEq, Nat.reduceEqDiff, Nat.reduceAdd, Nat.reduceLT, Nat.reduceSub, Nat.reduceMul, Nat.reduceLeDiff, if_true, if_false, if_pos, if_neg, hH]
      | false =>
        rw [hd, if_neg (by simp)] at hH
        simp -implicitDefEqProofs (disch := omega) only [stepA, bodyA, Try.cfgO, Try.sh20, Try.func20, Try.f20, push_cast, ↓dstAt_zero, ↓dstAt_succ, ↓arun_skip, ↓arun_region, ↓arun_seq, ↓arun_cond, ↓arun_block, ↓arun_loop, ↓arun_exit, ↓arun_ret, aops_nil, aops_cons, aops_cons_guard, ↓putA_some, ↓putA_none, ↓aop_move, ↓aop_assign, ↓aop_pick, ↓aop_alloc, ↓aop_box, ↓aop_build, ↓aop_buildSlice, ↓aop_load, ↓aop_store, ↓aop_nilCheck, ↓aop_binOp, ↓aop_unOp, ↓aop_convert, ↓aop_makeSlice, ↓aop_fieldAddr, ↓aop_field, ↓aop_indexAddr, ↓aop_index, ↓aop_lookup, ↓aop_mapUpdate, ↓aop_insert, ↓aop_extract, ↓aop_callB, ↓aop_callF, ↓aop_callT, ↓aop_makeFunc, ↓aop_makeMap, ↓aop_slice, ↓aevs_nil, ↓aevs_cons, ↓evP_nil, ↓evP_cons, ↓aevO_none, ↓aevO_some, ↓reduceIte, reduceCtorEq, Nat.reduceEqDiff, Nat.reduceAdd, Nat.reduceLT, Nat.reduceSub, Nat.reduceMul, Nat.reduceLeDiff, if_true, if_false, if_pos, if_neg, hH]
  · have hd : decide (A = C) = false := decide_eq_false (fun e => hl (by rw [e]))
    rw [hd]
    simp -implicitDefEqProofs (disch := omega) only [stepA, bodyA, Try.cfgO, Try.sh20, Try.func20, Try.f20, push_cast, ↓dstAt_zero, ↓dstAt_succ, ↓arun_skip, ↓arun_region, ↓arun_seq, ↓arun_cond, ↓arun_block, ↓arun_loop, ↓arun_exit, ↓arun_ret, aops_nil, aops_cons, aops_cons_guard, ↓putA_some, ↓putA_none, ↓aop_move, ↓aop_assign, ↓aop_pick, ↓aop_alloc, ↓aop_box, ↓aop_build, ↓aop_buildSlice, ↓aop_load, ↓aop_store, ↓aop_nilCheck, ↓aop_binOp, ↓aop_unOp, ↓aop_convert, ↓aop_makeSlice, ↓aop_fieldAddr, ↓aop_field, ↓aop_indexAddr, ↓aop_index, ↓aop_lookup, ↓aop_mapUpdate, ↓aop_insert, ↓aop_extract, ↓aop_callB, ↓aop_callF, ↓aop_callT, ↓aop_makeFunc, ↓aop_makeMap, ↓aop_slice, ↓aevs_nil, ↓aevs_cons, ↓evP_nil, ↓evP_cons, ↓aevO_none, ↓aevO_some, ↓reduceIte, reduceCtorEq, Nat.reduceEqDiff, Nat.reduceAdd, Nat.reduceLT, Nat.reduceSub, Nat.reduceMul, Nat.reduceLeDiff, if_true, if_false, if_pos, if_neg, ]
section
variable {a : Code} (h : loopOf 0 Try.f37 = some a) {A C : List Int} (hA : A.length ≤ 1000000) (hC : C.length = A.length)
include h hA hC
def st37 (A C : List Int) (i : Nat) : St := ([(0, Is A), (1, Is C), (12, I A.length), (13, I i)], [])
theorem r37a {i : Nat} (hi : i < A.length) (hq : decide (A.getD i 0 = C.getD i 0) = true) : roundA Try.cfg 37 iter (call Try.cfg) 0 a (st37 A C i) = some (.normal, st37 A C (i + 1)) := by
  cases h
  have hx : A[i]? = some (A.getD i 0) := by simp [hi]
  have hy : C[i]? = some (C.getD i 0) := by simp [hi, hC]
  have he := of_decide_eq_true hq
  simp -implicitDefEqProofs (disch := omega) only [push_cast, ↓dstAt_zero, ↓dstAt_succ, ↓arun_skip, ↓arun_region, ↓arun_seq, ↓arun_cond, ↓arun_block, ↓arun_loop, ↓arun_exit, ↓arun_ret, aops_nil, aops_cons, aops_cons_guard, ↓putA_some, ↓putA_none, ↓aop_move, ↓aop_assign, ↓aop_pick, ↓aop_alloc, ↓aop_box, ↓aop_build, ↓aop_buildSlice, ↓aop_load, ↓aop_store, ↓aop_nilCheck, ↓aop_binOp, ↓aop_unOp, ↓aop_convert, ↓aop_makeSlice, ↓aop_fieldAddr, ↓aop_field, ↓aop_indexAddr, ↓aop_index, ↓aop_lookup, ↓aop_mapUpdate, ↓aop_insert, ↓aop_extract, ↓aop_callB, ↓aop_callF, ↓aop_callT, ↓aop_makeFunc, ↓aop_makeMap, ↓aop_slice, ↓aevs_nil, ↓aevs_cons, ↓evP_nil, ↓evP_cons, ↓aevO_none, ↓aevO_some, ↓reduceIte, reduceCtorEq, Nat.reduceEqDiff, Nat.reduceAdd, Nat.reduceLT, Nat.reduceSub, Nat.reduceMul, Nat.reduceLeDiff, if_true, if_false, if_pos, if_neg, st37, hx, hy]
  try rfl
theorem r37b {i : Nat} (hi : i < A.length) (hq : decide (A.getD i 0 = C.getD i 0) = false) : roundA Try.cfg 37 iter (call Try.cfg) 0 a (st37 A C i) = some (.ret, [(4, B false)], []) := by
  cases h
  have hx : A[i]? = some (A.getD i 0) := by simp [hi]
  have hy : C[i]? = some (C.getD i 0) := by simp [hi, hC]
  have he := of_decide_eq_false hq
  simp -implicitDefEqProofs (disch := omega) only [push_cast, ↓dstAt_zero, ↓dstAt_succ, ↓arun_skip, ↓arun_region, ↓arun_seq, ↓arun_cond, ↓arun_block, ↓arun_loop, ↓arun_exit, ↓arun_ret, aops_nil, aops_cons, aops_cons_guard, ↓putA_some, ↓putA_none, ↓aop_move, ↓aop_assign, ↓aop_pick, ↓aop_alloc, ↓aop_box, ↓aop_build, ↓aop_buildSlice, ↓aop_load, ↓aop_store, ↓aop_nilCheck, ↓aop_binOp, ↓aop_unOp, ↓aop_convert, ↓aop_makeSlice, ↓aop_fieldAddr, ↓aop_field, ↓aop_indexAddr, ↓aop_index, ↓aop_lookup, ↓aop_mapUpdate, ↓aop_insert, ↓aop_extract, ↓aop_callB, ↓aop_callF, ↓aop_callT, ↓aop_makeFunc, ↓aop_makeMap, ↓aop_slice, ↓aevs_nil, ↓aevs_cons, ↓evP_nil, ↓evP_cons, ↓aevO_none, ↓aevO_some, ↓reduceIte, reduceCtorEq, Nat.reduceEqDiff, Nat.reduceAdd, Nat.reduceLT, Nat.reduceSub, Nat.reduceMul, Nat.reduceLeDiff, if_true, if_false, if_pos, if_neg, st37, hx, hy]
theorem r37c : roundA Try.cfg 37 iter (call Try.cfg) 0 a (st37 A C A.length) = some (.exit 0, [], []) := by
  cases h
  simp -implicitDefEqProofs (disch := omega) only [push_cast, ↓dstAt_zero, ↓dstAt_succ, ↓arun_skip, ↓arun_region, ↓arun_seq, ↓arun_cond, ↓arun_block, ↓arun_loop, ↓arun_exit, ↓arun_ret, aops_nil, aops_cons, aops_cons_guard, ↓putA_some, ↓putA_none, ↓aop_move, ↓aop_assign, ↓aop_pick, ↓aop_alloc, ↓aop_box, ↓aop_build, ↓aop_buildSlice, ↓aop_load, ↓aop_store, ↓aop_nilCheck, ↓aop_binOp, ↓aop_unOp, ↓aop_convert, ↓aop_makeSlice, ↓aop_fieldAddr, ↓aop_field, ↓aop_indexAddr, ↓aop_index, ↓aop_lookup, ↓aop_mapUpdate, ↓aop_insert, ↓aop_extract, ↓aop_callB, ↓aop_callF, ↓aop_callT, ↓aop_makeFunc, ↓aop_makeMap, ↓aop_slice, ↓aevs_nil, ↓aevs_cons, ↓evP_nil, ↓evP_cons, ↓aevO_none, ↓aevO_some, ↓reduceIte, reduceCtorEq, Nat.reduceEqDiff, Nat.reduceAdd, Nat.reduceLT, Nat.reduceSub, Nat.reduceMul, Nat.reduceLeDiff, if_true, if_false, if_pos, if_neg, st37]
end
theorem call37 {A C : List Int} (hA : A.length ≤ 1000000) (hC : C.length ≤ 1000000) : call Try.cfg 37 [Is A, Is C] [] = some (B (decide (A = C)), []) := by
  refine call_step ?_
  by_cases hl : C.length = A.length
  · cases hlo : loopOf 0 Try.f37 with
    | none => cases hlo
    | some a =>
      have hH := iter_all (S := fun i => st37 A C i) (q := fun i => decide (A.getD i 0 = C.getD i 0)) (fun i hi hq => r37a hlo hA hl hi hq) (fun i hi hq => r37b hlo hA hl hi hq) (r37c hlo hA hl) (by simp) (by simp) A.length 0 (by omega)
      cases hlo
      rw [all_eq 0 hl.symm] at hH
      simp only [st37, Is, Int.natCast_zero] at hH
      cases hd : decide (A = C) with
      | true =>
        rw [hd, if_pos rfl] at hH
        simp -implicitDefEqProofs (disch := omega) only [stepA, bodyA, Try.cfgO, Try.sh37, Try.func37, Try.f37, push_cast, ↓dstAt_zero, ↓dstAt_succ, ↓arun_skip, ↓arun_region, ↓arun_seq, ↓arun_cond, ↓arun_block, ↓arun_loop, ↓arun_exit, ↓arun_ret, aops_nil, aops_cons, aops_cons_guard, ↓putA_some, ↓putA_none, ↓aop_move, ↓aop_assign, ↓aop_pick, ↓aop_alloc, ↓aop_box, ↓aop_build, ↓aop_buildSlice, ↓aop_load, ↓aop_store, ↓aop_nilCheck, ↓aop_binOp, ↓aop_unOp, ↓aop_convert, ↓aop_makeSlice, ↓aop_fieldAddr, ↓aop_field, ↓aop_indexAddr, ↓aop_index, ↓aop_lookup, ↓aop_mapUpdate, ↓aop_insert, ↓aop_extract, ↓aop_callB, ↓aop_callF, ↓aop_callT, ↓aop_makeFunc, ↓aop_makeMap, ↓aop_slice, ↓aevs_nil, ↓aevs_cons, ↓evP_nil, ↓evP_cons, ↓aevO_none, ↓aevO_some, ↓reduceIte, reduceCtorEq, Nat.reduceEqDiff, Nat.reduceAdd, Nat.reduceLT, Nat.reduceSub, Nat.reduceMul, Nat.reduceLeDiff, if_true, if_false, if_pos, if_neg, hH]
      | false =>
        rw [hd, if_neg (by simp)] at hH
        simp -implicitDefEqProofs (disch := omega) only [stepA, bodyA, Try.cfgO, Try.sh37, Try.func37, Try.f37, push_cast, ↓dstAt_zero, ↓dstAt_succ, ↓arun_skip, ↓arun_region, ↓arun_seq, ↓arun_cond, ↓arun_block, ↓arun_loop, ↓arun_exit, ↓arun_ret, aops_nil, aops_cons, aops_cons_guard, ↓putA_some, ↓putA_none, ↓aop_move, ↓aop_assign, ↓aop_pick, ↓aop_alloc, ↓aop_box, ↓aop_build, ↓aop_buildSlice, ↓aop_load, ↓aop_store, ↓aop_nilCheck, ↓aop_binOp, ↓aop_unOp, ↓aop_convert, ↓aop_makeSlice, ↓aop_fieldAddr, ↓aop_field, ↓aop_indexAddr, ↓aop_index, ↓aop_lookup, ↓aop_mapUpdate, ↓aop_insert, ↓aop_extract, ↓aop_callB, ↓aop_callF, ↓aop_callT, ↓aop_makeFunc, ↓aop_makeMap, ↓aop_slice, ↓aevs_nil, ↓aevs_cons, ↓evP_nil, ↓evP_cons, ↓aevO_none, ↓aevO_some, ↓reduceIte, reduceCtorEq, Nat.reduceEqDiff, Nat.reduceAdd, Nat.reduceLT, Nat.reduceSub, Nat.reduceMul, Nat.reduceLeDiff, if_true, if_false, if_pos, if_neg, hH]
  · have hd : decide (A = C) = false := decide_eq_false (fun e => hl (by rw [e]))
    rw [hd]
    simp -implicitDefEqProofs (disch := omega) only [stepA, bodyA, Try.cfgO, Try.sh37, Try.func37, Try.f37, push_cast, ↓dstAt_zero, ↓dstAt_succ, ↓arun_skip, ↓arun_region, ↓arun_seq, ↓arun_cond, ↓arun_block, ↓arun_loop, ↓arun_exit, ↓arun_ret, aops_nil, aops_cons, aops_cons_guard, ↓putA_some, ↓putA_none, ↓aop_move, ↓aop_assign, ↓aop_pick, ↓aop_alloc, ↓aop_box, ↓aop_build, ↓aop_buildSlice, ↓aop_load, ↓aop_store, ↓aop_nilCheck, ↓aop_binOp, ↓aop_unOp, ↓aop_convert, ↓aop_makeSlice, ↓aop_fieldAddr, ↓aop_field, ↓aop_indexAddr, ↓aop_index, ↓aop_lookup, ↓aop_mapUpdate, ↓aop_insert, ↓aop_extract, ↓aop_callB, ↓aop_callF, ↓aop_callT, ↓aop_makeFunc, ↓aop_makeMap, ↓aop_slice, ↓aevs_nil, ↓aevs_cons, ↓evP_nil, ↓evP_cons, ↓aevO_none, ↓aevO_some, ↓reduceIte, reduceCtorEq, Nat.reduceEqDiff, Nat.reduceAdd, Nat.reduceLT, Nat.reduceSub, Nat.reduceMul, Nat.reduceLeDiff, if_true, if_false, if_pos, if_neg, ]
end Go.Proofs
