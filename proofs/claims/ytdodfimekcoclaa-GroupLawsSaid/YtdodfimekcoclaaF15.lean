/- identity, product, Mod. -/
import Derived.Test.YtdodfimekcoclaaAiSeat
import Derived.Test.YtdodfimekcoclaaAiSym
set_option linter.unusedVariables false
set_option linter.unusedSimpArgs false
set_option linter.unusedSectionVars false
namespace Go.Proofs
open Go.AI
set_option maxRecDepth 20000
theorem call15 {n m : Int} (h0 : 0 < m) (h1 : m ≤ 1000) (hn : -9223372036854775808 ≤ n) (hn' : n < 9223372036854775808) : call Try.cfg 15 [I n, I m] [] = some (I (n % m), []) := by
  refine call_step ?_
  have e1 : n.tmod m = n % m ∨ n.tmod m = n % m - m := by
    by_cases h : 0 ≤ n
    · left; rw [Int.tmod_eq_emod_of_nonneg h]
    · rw [Int.tmod_eq_emod]
      split
      · left; omega
      · right; omega
  have hm := Int.emod_nonneg n (Int.ne_of_gt h0)
  have hm' := Int.emod_lt_of_pos n h0
  by_cases hs : n.tmod m < 0
  · have e2 : n.tmod m + m = n % m := by omega
    simp -implicitDefEqProofs (disch := omega) only [stepA, bodyA, Try.cfgO, Try.sh15, Try.func15, Try.f15, push_cast, ↓dstAt_zero, ↓dstAt_succ, ↓arun_skip, ↓arun_region, ↓arun_seq, ↓arun_cond, ↓arun_block, ↓arun_loop, ↓arun_exit, ↓arun_ret, aops_nil, aops_cons, aops_cons_guard, ↓putA_some, ↓putA_none, ↓aop_move, ↓aop_assign, ↓aop_pick, ↓aop_alloc, ↓aop_box, ↓aop_build, ↓aop_buildSlice, ↓aop_load, ↓aop_store, ↓aop_nilCheck, ↓aop_binOp, ↓aop_unOp, ↓aop_convert, ↓aop_makeSlice, ↓aop_fieldAddr, ↓aop_field, ↓aop_indexAddr, ↓aop_index, ↓aop_lookup, ↓aop_mapUpdate, ↓aop_insert, ↓aop_extract, ↓aop_callB, ↓aop_callF, ↓aop_callT, ↓aop_makeFunc, ↓aop_makeMap, ↓aop_slice, ↓aevs_nil, ↓aevs_cons, ↓evP_nil, ↓evP_cons, ↓aevO_none, ↓aevO_some, ↓reduceIte, reduceCtorEq, Nat.reduceEqDiff, Nat.reduceAdd, Nat.reduceLT, Nat.reduceSub, Nat.reduceMul, Nat.reduceLeDiff, if_true, if_false, if_pos, if_neg, abin_rem, e2]
  · have e2 : n.tmod m = n % m := by omega
    rw [e2] at hs
    simp -implicitDefEqProofs (disch := omega) only [stepA, bodyA, Try.cfgO, Try.sh15, Try.func15, Try.f15, push_cast, ↓dstAt_zero, ↓dstAt_succ, ↓arun_skip, ↓arun_region, ↓arun_seq, ↓arun_cond, ↓arun_block, ↓arun_loop, ↓arun_exit, ↓arun_ret, aops_nil, aops_cons, aops_cons_guard, ↓putA_some, ↓putA_none, ↓aop_move, ↓aop_assign, ↓aop_pick, ↓aop_alloc, ↓aop_box, ↓aop_build, ↓aop_buildSlice, ↓aop_load, ↓aop_store, ↓aop_nilCheck, ↓aop_binOp, ↓aop_unOp, ↓aop_convert, ↓aop_makeSlice, ↓aop_fieldAddr, ↓aop_field, ↓aop_indexAddr, ↓aop_index, ↓aop_lookup, ↓aop_mapUpdate, ↓aop_insert, ↓aop_extract, ↓aop_callB, ↓aop_callF, ↓aop_callT, ↓aop_makeFunc, ↓aop_makeMap, ↓aop_slice, ↓aevs_nil, ↓aevs_cons, ↓evP_nil, ↓evP_cons, ↓aevO_none, ↓aevO_some, ↓reduceIte, reduceCtorEq, Nat.reduceEqDiff, Nat.reduceAdd, Nat.reduceLT, Nat.reduceSub, Nat.reduceMul, Nat.reduceLeDiff, if_true, if_false, if_pos, if_neg, abin_rem, e2]

end Go.Proofs
