/- Cycles: the outer round. -/
import Derived.Test.YtdodfimekcoclaaF26b
set_option linter.unusedVariables false
set_option linter.unusedSimpArgs false
set_option linter.unusedSectionVars false
namespace Go.Proofs
open Go.AI
set_option maxRecDepth 20000
def st26 (A : List Int) (i : Nat) (out : List (List Int)) (bs : List Bool) : St :=
  ([(0, Is A), (4, growR 1 out.length), (5, .ms 2 0 0 A.length 1), (16, I A.length), (17, I i)],
   [.cells true 0 [], .cells true out.length (out.map Is), .cells true 0 (Bs bs)])
theorem under_growR (b m k : Nat) : (growR b m).under k = decide (b < k) := rfl
section
variable {a : Code} (h : loopOf 0 Try.f26 = some a) {A : List Int} (hv : validL A = true) {i : Nat} {out : List (List Int)} {bs : List Bool} (hb : bs.length = A.length) (ho : out.length ≤ 6) (hi : i < A.length)
include h hv hb ho hi
theorem o26b (hs : bs[i]? = some true) : roundA Try.cfg 26 iter (call Try.cfg) 0 a (st26 A i out bs) = some (.normal, st26 A (i + 1) out bs) := by
  cases h
  have h6 := valid_len hv
  simp -implicitDefEqProofs (maxSteps := 1000000) (disch := omega) only [push_cast, ↓dstAt_zero, ↓dstAt_succ, ↓arun_skip, ↓arun_region, ↓arun_seq, ↓arun_cond, ↓arun_block, ↓arun_loop, ↓arun_exit, ↓arun_ret, aops_nil, aops_cons, aops_cons_guard, ↓putA_some, ↓putA_none, ↓aop_move, ↓aop_assign, ↓aop_pick, ↓aop_alloc, ↓aop_box, ↓aop_build, ↓aop_buildSlice, ↓aop_load, ↓aop_store, ↓aop_nilCheck, ↓aop_binOp, ↓aop_unOp, ↓aop_convert, ↓aop_makeSlice, ↓aop_fieldAddr, ↓aop_field, ↓aop_indexAddr, ↓aop_index, ↓aop_lookup, ↓aop_mapUpdate, ↓aop_insert, ↓aop_extract, ↓aop_callB, ↓aop_callF, ↓aop_callT, ↓aop_makeFunc, ↓aop_makeMap, ↓aop_slice, ↓aevs_nil, ↓aevs_cons, ↓evP_nil, ↓evP_cons, ↓aevO_none, ↓aevO_some, ↓reduceIte, reduceCtorEq, Nat.reduceEqDiff, Nat.reduceAdd, Nat.reduceLT, Nat.reduceSub, Nat.reduceMul, Nat.reduceLeDiff, if_true, if_false, if_pos, if_neg, st26, hs, under_growR, decide_true]
  try rfl
theorem o26a (hs : bs[i]? = some false) (hcnt : bs.count false ≤ 6) (q : List Bool × List Int) (hq : q = cyc A 7 bs [] i) (hl : q.2.length ≤ 7) : roundA Try.cfg 26 iter (call Try.cfg) 0 a (st26 A i out bs) = some (.normal, st26 A (i + 1) (out ++ [q.2]) q.1) := by
  have h6 := valid_len hv
  cases h2 : loopOf 2 Try.f26 with
  | none => cases h2
  | some a2 =>
    have hi := inner26 h2 hv (i := i) (out := out) 6 bs [] i hb (by simpa using hcnt) hcnt (by omega) (by omega)
    cases h
    cases h2
    rw [← hq] at hi
    obtain ⟨bs', c'⟩ := q
    simp only [in26, out26, List.length_nil, List.map_nil, growR_zero, Is, Bs] at hi
    cases c' with
    | nil =>
      cases out with
      | nil =>
        simp only [List.length_nil, List.map_nil, List.length_cons, growR_zero, growR_succ] at hi
        simp -implicitDefEqProofs (maxSteps := 1000000) (disch := omega) only [push_cast, ↓dstAt_zero, ↓dstAt_succ, ↓arun_skip, ↓arun_region, ↓arun_seq, ↓arun_cond, ↓arun_block, ↓arun_loop, ↓arun_exit, ↓arun_ret, aops_nil, aops_cons, aops_cons_guard, ↓putA_some, ↓putA_none, ↓aop_move, ↓aop_assign, ↓aop_pick, ↓aop_alloc, ↓aop_box, ↓aop_build, ↓aop_buildSlice, ↓aop_load, ↓aop_store, ↓aop_nilCheck, ↓aop_binOp, ↓aop_unOp, ↓aop_convert, ↓aop_makeSlice, ↓aop_fieldAddr, ↓aop_field, ↓aop_indexAddr, ↓aop_index, ↓aop_lookup, ↓aop_mapUpdate, ↓aop_insert, ↓aop_extract, ↓aop_callB, ↓aop_callF, ↓aop_callT, ↓aop_makeFunc, ↓aop_makeMap, ↓aop_slice, ↓aevs_nil, ↓aevs_cons, ↓evP_nil, ↓evP_cons, ↓aevO_none, ↓aevO_some, ↓reduceIte, reduceCtorEq, Nat.reduceEqDiff, Nat.reduceAdd, Nat.reduceLT, Nat.reduceSub, Nat.reduceMul, Nat.reduceLeDiff, if_true, if_false, if_pos, if_neg, st26, hs, under_growR, decide_true, hi, List.length_nil, growR_zero, growR_succ, List.length_cons]
        try rfl
      | cons y out =>
        have ho' : out.length ≤ 5 := by simpa using ho
        simp only [List.length_nil, List.map_nil, List.length_cons, growR_zero, growR_succ] at hi
        simp -implicitDefEqProofs (maxSteps := 1000000) (disch := omega) only [push_cast, ↓dstAt_zero, ↓dstAt_succ, ↓arun_skip, ↓arun_region, ↓arun_seq, ↓arun_cond, ↓arun_block, ↓arun_loop, ↓arun_exit, ↓arun_ret, aops_nil, aops_cons, aops_cons_guard, ↓putA_some, ↓putA_none, ↓aop_move, ↓aop_assign, ↓aop_pick, ↓aop_alloc, ↓aop_box, ↓aop_build, ↓aop_buildSlice, ↓aop_load, ↓aop_store, ↓aop_nilCheck, ↓aop_binOp, ↓aop_unOp, ↓aop_convert, ↓aop_makeSlice, ↓aop_fieldAddr, ↓aop_field, ↓aop_indexAddr, ↓aop_index, ↓aop_lookup, ↓aop_mapUpdate, ↓aop_insert, ↓aop_extract, ↓aop_callB, ↓aop_callF, ↓aop_callT, ↓aop_makeFunc, ↓aop_makeMap, ↓aop_slice, ↓aevs_nil, ↓aevs_cons, ↓evP_nil, ↓evP_cons, ↓aevO_none, ↓aevO_some, ↓reduceIte, reduceCtorEq, Nat.reduceEqDiff, Nat.reduceAdd, Nat.reduceLT, Nat.reduceSub, Nat.reduceMul, Nat.reduceLeDiff, if_true, if_false, if_pos, if_neg, st26, hs, under_growR, decide_true, hi, List.length_nil, growR_zero, growR_succ, List.length_cons]
        simp only [take_map_cons, List.take_length, underL_app, underL_Is, underL_cons, underL_nil, under_sl, Bool.and_self, if_true, obind_some]
        simp only [List.map_cons, List.map_append, List.map_nil, Is, List.length_cons, List.cons_append, List.length_append, List.length_nil, Nat.zero_add, Nat.add_assoc]
        try rfl
    | cons x c' =>
      have hl' : c'.length ≤ 6 := by simpa using hl
      cases out with
      | nil =>
        simp only [List.length_nil, List.map_nil, List.length_cons, growR_zero, growR_succ] at hi
        simp -implicitDefEqProofs (maxSteps := 1000000) (disch := omega) only [push_cast, ↓dstAt_zero, ↓dstAt_succ, ↓arun_skip, ↓arun_region, ↓arun_seq, ↓arun_cond, ↓arun_block, ↓arun_loop, ↓arun_exit, ↓arun_ret, aops_nil, aops_cons, aops_cons_guard, ↓putA_some, ↓putA_none, ↓aop_move, ↓aop_assign, ↓aop_pick, ↓aop_alloc, ↓aop_box, ↓aop_build, ↓aop_buildSlice, ↓aop_load, ↓aop_store, ↓aop_nilCheck, ↓aop_binOp, ↓aop_unOp, ↓aop_convert, ↓aop_makeSlice, ↓aop_fieldAddr, ↓aop_field, ↓aop_indexAddr, ↓aop_index, ↓aop_lookup, ↓aop_mapUpdate, ↓aop_insert, ↓aop_extract, ↓aop_callB, ↓aop_callF, ↓aop_callT, ↓aop_makeFunc, ↓aop_makeMap, ↓aop_slice, ↓aevs_nil, ↓aevs_cons, ↓evP_nil, ↓evP_cons, ↓aevO_none, ↓aevO_some, ↓reduceIte, reduceCtorEq, Nat.reduceEqDiff, Nat.reduceAdd, Nat.reduceLT, Nat.reduceSub, Nat.reduceMul, Nat.reduceLeDiff, if_true, if_false, if_pos, if_neg, st26, hs, under_growR, decide_true, hi, List.length_nil, growR_zero, growR_succ, List.length_cons]
        simp only [take_map_cons, List.take_length, underL_app, underL_Is, underL_cons, underL_nil, under_sl, Bool.and_self, if_true, obind_some]
        simp only [List.map_cons, List.map_append, List.map_nil, Is, List.length_cons, List.cons_append, List.length_append, List.length_nil, Nat.zero_add, Nat.add_assoc]
        try rfl
      | cons y out =>
        have ho' : out.length ≤ 5 := by simpa using ho
        simp only [List.length_nil, List.map_nil, List.length_cons, growR_zero, growR_succ] at hi
        simp -implicitDefEqProofs (maxSteps := 1000000) (disch := omega) only [push_cast, ↓dstAt_zero, ↓dstAt_succ, ↓arun_skip, ↓arun_region, ↓arun_seq, ↓arun_cond, ↓arun_block, ↓arun_loop, ↓arun_exit, ↓arun_ret, aops_nil, aops_cons, aops_cons_guard, ↓putA_some, ↓putA_none, ↓aop_move, ↓aop_assign, ↓aop_pick, ↓aop_alloc, ↓aop_box, ↓aop_build, ↓aop_buildSlice, ↓aop_load, ↓aop_store, ↓aop_nilCheck, ↓aop_binOp, ↓aop_unOp, ↓aop_convert, ↓aop_makeSlice, ↓aop_fieldAddr, ↓aop_field, ↓aop_indexAddr, ↓aop_index, ↓aop_lookup, ↓aop_mapUpdate, ↓aop_insert, ↓aop_extract, ↓aop_callB, ↓aop_callF, ↓aop_callT, ↓aop_makeFunc, ↓aop_makeMap, ↓aop_slice, ↓aevs_nil, ↓aevs_cons, ↓evP_nil, ↓evP_cons, ↓aevO_none, ↓aevO_some, ↓reduceIte, reduceCtorEq, Nat.reduceEqDiff, Nat.reduceAdd, Nat.reduceLT, Nat.reduceSub, Nat.reduceMul, Nat.reduceLeDiff, if_true, if_false, if_pos, if_neg, st26, hs, under_growR, decide_true, hi, List.length_nil, growR_zero, growR_succ, List.length_cons]
        simp only [take_map_cons, List.take_length, underL_app, underL_Is, underL_cons, underL_nil, under_sl, Bool.and_self, if_true, obind_some]
        simp only [List.map_cons, List.map_append, List.map_nil, Is, List.length_cons, List.cons_append, List.length_append, List.length_nil, Nat.zero_add, Nat.add_assoc]
        try rfl
end
end Go.Proofs
