/- Cycles: the inner loop. -/
import Derived.Test.YtdodfimekcoclaaF19
set_option linter.unusedVariables false
set_option linter.unusedSimpArgs false
set_option linter.unusedSectionVars false
namespace Go.Proofs
open Go.AI
set_option maxRecDepth 20000
/-- A slice that has grown from nothing: its reference. -/
def growR (b m : Nat) : AV := .ms b m 0 m (if m = 0 then 0 else 1)
theorem growR_zero (b : Nat) : growR b 0 = .ms b 0 0 0 0 := rfl
theorem growR_succ (b m : Nat) : growR b (m + 1) = .ms b (m + 1) 0 (m + 1) 1 := rfl
def in26 (A : List Int) (i : Nat) (out : List (List Int)) (bs : List Bool) (c : List Int) (k : Int) : St :=
  ([(0, Is A), (4, growR 1 out.length), (5, .ms 2 0 0 A.length 1), (7, growR 3 c.length), (8, I k), (16, I A.length), (17, I i)],
   [.cells true 0 [], .cells true out.length (out.map Is), .cells true 0 (Bs bs), .cells true c.length (c.map I)])
section
variable {a : Code} (h : loopOf 2 Try.f26 = some a) {A : List Int} (hv : validL A = true) {i : Nat} {out : List (List Int)} {bs : List Bool} (hb : bs.length = A.length) {c : List Int} (hc : c.length ≤ 6) {k : Int} (hk : 0 ≤ k) (hk' : k < A.length)
include h hv hb hc hk hk'
theorem i26b (hs : bs[k.toNat]? = some true) : roundA Try.cfg 26 iter (call Try.cfg) 2 a (in26 A i out bs c k) = some (.exit 2, [(0, Is A), (4, growR 1 out.length), (5, .ms 2 0 0 A.length 1), (7, growR 3 c.length), (16, I A.length), (17, I i)],
   [.cells true 0 [], .cells true out.length (out.map Is), .cells true 0 (Bs bs), .cells true c.length (c.map I)]) := by
  cases h
  have h6 := valid_len hv
  simp -implicitDefEqProofs (maxSteps := 1000000) (disch := omega) only [push_cast, ↓dstAt_zero, ↓dstAt_succ, ↓arun_skip, ↓arun_region, ↓arun_seq, ↓arun_cond, ↓arun_block, ↓arun_loop, ↓arun_exit, ↓arun_ret, aops_nil, aops_cons, aops_cons_guard, ↓putA_some, ↓putA_none, ↓aop_move, ↓aop_assign, ↓aop_pick, ↓aop_alloc, ↓aop_box, ↓aop_build, ↓aop_buildSlice, ↓aop_load, ↓aop_store, ↓aop_nilCheck, ↓aop_binOp, ↓aop_unOp, ↓aop_convert, ↓aop_makeSlice, ↓aop_fieldAddr, ↓aop_field, ↓aop_indexAddr, ↓aop_index, ↓aop_lookup, ↓aop_mapUpdate, ↓aop_insert, ↓aop_extract, ↓aop_callB, ↓aop_callF, ↓aop_callT, ↓aop_makeFunc, ↓aop_makeMap, ↓aop_slice, ↓aevs_nil, ↓aevs_cons, ↓evP_nil, ↓evP_cons, ↓aevO_none, ↓aevO_some, ↓reduceIte, reduceCtorEq, Nat.reduceEqDiff, Nat.reduceAdd, Nat.reduceLT, Nat.reduceSub, Nat.reduceMul, Nat.reduceLeDiff, if_true, if_false, if_pos, if_neg, in26, hs]
theorem i26a (hs : bs[k.toNat]? = some false) : roundA Try.cfg 26 iter (call Try.cfg) 2 a (in26 A i out bs c k) = some (.normal, in26 A i out (bs.set k.toNat true) (c ++ [k]) (A.getD k.toNat 0)) := by
  cases h
  have h6 := valid_len hv
  have hx : A[k.toNat]? = some (A.getD k.toNat 0) := by
    have : k.toNat < A.length := by omega
    simp [this]
  generalize A.getD k.toNat 0 = x at *
  cases c with
  | nil =>
    simp -implicitDefEqProofs (maxSteps := 1000000) (disch := omega) only [push_cast, ↓dstAt_zero, ↓dstAt_succ, ↓arun_skip, ↓arun_region, ↓arun_seq, ↓arun_cond, ↓arun_block, ↓arun_loop, ↓arun_exit, ↓arun_ret, aops_nil, aops_cons, aops_cons_guard, ↓putA_some, ↓putA_none, ↓aop_move, ↓aop_assign, ↓aop_pick, ↓aop_alloc, ↓aop_box, ↓aop_build, ↓aop_buildSlice, ↓aop_load, ↓aop_store, ↓aop_nilCheck, ↓aop_binOp, ↓aop_unOp, ↓aop_convert, ↓aop_makeSlice, ↓aop_fieldAddr, ↓aop_field, ↓aop_indexAddr, ↓aop_index, ↓aop_lookup, ↓aop_mapUpdate, ↓aop_insert, ↓aop_extract, ↓aop_callB, ↓aop_callF, ↓aop_callT, ↓aop_makeFunc, ↓aop_makeMap, ↓aop_slice, ↓aevs_nil, ↓aevs_cons, ↓evP_nil, ↓evP_cons, ↓aevO_none, ↓aevO_some, ↓reduceIte, reduceCtorEq, Nat.reduceEqDiff, Nat.reduceAdd, Nat.reduceLT, Nat.reduceSub, Nat.reduceMul, Nat.reduceLeDiff, if_true, if_false, if_pos, if_neg, in26, hs, hx, growR_zero]
    try rfl
  | cons y c =>
    have hc' : c.length ≤ 5 := by simpa using hc
    simp -implicitDefEqProofs (maxSteps := 1000000) (disch := omega) only [push_cast, ↓dstAt_zero, ↓dstAt_succ, ↓arun_skip, ↓arun_region, ↓arun_seq, ↓arun_cond, ↓arun_block, ↓arun_loop, ↓arun_exit, ↓arun_ret, aops_nil, aops_cons, aops_cons_guard, ↓putA_some, ↓putA_none, ↓aop_move, ↓aop_assign, ↓aop_pick, ↓aop_alloc, ↓aop_box, ↓aop_build, ↓aop_buildSlice, ↓aop_load, ↓aop_store, ↓aop_nilCheck, ↓aop_binOp, ↓aop_unOp, ↓aop_convert, ↓aop_makeSlice, ↓aop_fieldAddr, ↓aop_field, ↓aop_indexAddr, ↓aop_index, ↓aop_lookup, ↓aop_mapUpdate, ↓aop_insert, ↓aop_extract, ↓aop_callB, ↓aop_callF, ↓aop_callT, ↓aop_makeFunc, ↓aop_makeMap, ↓aop_slice, ↓aevs_nil, ↓aevs_cons, ↓evP_nil, ↓evP_cons, ↓aevO_none, ↓aevO_some, ↓reduceIte, reduceCtorEq, Nat.reduceEqDiff, Nat.reduceAdd, Nat.reduceLT, Nat.reduceSub, Nat.reduceMul, Nat.reduceLeDiff, if_true, if_false, if_pos, if_neg, in26, hs, hx, growR_succ, Nat.min_self, List.take_length]
end
end Go.Proofs
