/- Order, ref.Order. -/
import Derived.Test.YtdodfimekcoclaaF18
import Derived.Test.YtdodfimekcoclaaF20
import Derived.Test.YtdodfimekcoclaaPPerm
set_option linter.unusedVariables false
set_option linter.unusedSimpArgs false
set_option linter.unusedSectionVars false
namespace Go.Proofs
open Go.AI
set_option maxRecDepth 20000
theorem powP_length (A : List Int) : ∀ j, (powP A j).length = A.length
  | 0 => rfl
  | j + 1 => mulP_length A _
theorem powP_range {A : List Int} (hv : validL A = true) : ∀ j i, i < A.length → 0 ≤ (powP A j).getD i 0 ∧ (powP A j).getD i 0 < A.length
  | 0, i, hi => valid_range hv hi
  | j + 1, i, hi => by
    have h := powP_range hv j i hi
    have e : (mulP A (powP A j)).getD i 0 = A.getD ((powP A j).getD i 0).toNat 0 := by simp [mulP, hi]
    rw [powP, e]
    exact valid_range hv (by omega)
theorem idP_length (n : Nat) : (idP n).length = n := by simp [idP]
def ordF (A : List Int) : Nat → Nat → Nat
  | 0, j => j
  | k + 1, j => if powP A j = idP A.length then j else ordF A k (j + 1)
def ordL (A : List Int) : Int × Int := if validL A then (((ordF A 6 0 + 1 : Nat) : Int), 0) else (0, 1)
theorem call37u {A C : List Int} (hA : A.length ≤ 1000000) (hC : C.length ≤ 1000000) : call Try.cfg 37 [.sl false A.length (A.map I), .sl false C.length (C.map I)] [] = some (.v (.bool (decide (A = C))), []) := call37 hA hC
theorem call31u {n : Nat} (hn : n ≤ 1000) : call Try.cfg 31 [.v (.int .i64 n)] [] = some (.sl false n ((idP n).map I), []) := call31 hn
theorem call38u {n : Nat} (hn : n ≤ 1000) : call Try.cfg 38 [.v (.int .i64 n)] [] = some (.sl false n ((idP n).map I), []) := call38 hn
section
variable {a : Code} (h : loopOf 0 Try.f19 = some a) {A : List Int} (hv : validL A = true)
include h hv
def st19 (A : List Int) (j : Nat) : St := ([(0, Is A), (4, Is (idP A.length)), (5, I ((j : Int) + 1)), (6, Is (powP A j))], [])
theorem r19a {j : Nat} (hj : j ≤ 6) (hne : decide (powP A j = idP A.length) = false) : roundA Try.cfg 19 iter (call Try.cfg) 0 a (st19 A j) = some (.normal, st19 A (j + 1)) := by
  cases h
  have h6 := valid_len hv
  have hl := powP_length A j
  have hi := idP_length A.length
  have h37 := call37u (A := powP A j) (C := idP A.length) (by omega) (by omega)
  rw [hne] at h37
  have h33 := call33u (A := A) (C := powP A j) h6 hl (powP_range hv j)
  have hm := mulP_length A (powP A j)
  have hs : st19 A (j + 1) = ([(0, Is A), (4, Is (idP A.length)), (5, I (((j + 1 : Nat) : Int) + 1)), (6, Is (mulP A (powP A j)))], []) := rfl
  rw [hs]
  simp -implicitDefEqProofs (maxSteps := 1000000) (disch := omega) only [push_cast, ↓dstAt_zero, ↓dstAt_succ, ↓arun_skip, ↓arun_region, ↓arun_seq, ↓arun_cond, ↓arun_block, ↓arun_loop, ↓arun_exit, ↓arun_ret, aops_nil, aops_cons, aops_cons_guard, ↓putA_some, ↓putA_none, ↓aop_move, ↓aop_assign, ↓aop_pick, ↓aop_alloc, ↓aop_box, ↓aop_build, ↓aop_buildSlice, ↓aop_load, ↓aop_store, ↓aop_nilCheck, ↓aop_binOp, ↓aop_unOp, ↓aop_convert, ↓aop_makeSlice, ↓aop_fieldAddr, ↓aop_field, ↓aop_indexAddr, ↓aop_index, ↓aop_lookup, ↓aop_mapUpdate, ↓aop_insert, ↓aop_extract, ↓aop_callB, ↓aop_callF, ↓aop_callT, ↓aop_makeFunc, ↓aop_makeMap, ↓aop_slice, ↓aevs_nil, ↓aevs_cons, ↓evP_nil, ↓evP_cons, ↓aevO_none, ↓aevO_some, ↓reduceIte, reduceCtorEq, Nat.reduceEqDiff, Nat.reduceAdd, Nat.reduceLT, Nat.reduceSub, Nat.reduceMul, Nat.reduceLeDiff, if_true, if_false, if_pos, if_neg, Try.sh37, Try.sh33, st19, h37, h33, hm]
  try rfl
theorem r19b {j : Nat} (hj : j ≤ 6) (hne : decide (powP A j = idP A.length) = true) : roundA Try.cfg 19 iter (call Try.cfg) 0 a (st19 A j) = some (.exit 0, [(5, I ((j : Int) + 1))], []) := by
  cases h
  have h6 := valid_len hv
  have hl := powP_length A j
  have hi := idP_length A.length
  have h37 := call37u (A := powP A j) (C := idP A.length) (by omega) (by omega)
  rw [hne] at h37
  simp -implicitDefEqProofs (maxSteps := 1000000) (disch := omega) only [push_cast, ↓dstAt_zero, ↓dstAt_succ, ↓arun_skip, ↓arun_region, ↓arun_seq, ↓arun_cond, ↓arun_block, ↓arun_loop, ↓arun_exit, ↓arun_ret, aops_nil, aops_cons, aops_cons_guard, ↓putA_some, ↓putA_none, ↓aop_move, ↓aop_assign, ↓aop_pick, ↓aop_alloc, ↓aop_box, ↓aop_build, ↓aop_buildSlice, ↓aop_load, ↓aop_store, ↓aop_nilCheck, ↓aop_binOp, ↓aop_unOp, ↓aop_convert, ↓aop_makeSlice, ↓aop_fieldAddr, ↓aop_field, ↓aop_indexAddr, ↓aop_index, ↓aop_lookup, ↓aop_mapUpdate, ↓aop_insert, ↓aop_extract, ↓aop_callB, ↓aop_callF, ↓aop_callT, ↓aop_makeFunc, ↓aop_makeMap, ↓aop_slice, ↓aevs_nil, ↓aevs_cons, ↓evP_nil, ↓evP_cons, ↓aevO_none, ↓aevO_some, ↓reduceIte, reduceCtorEq, Nat.reduceEqDiff, Nat.reduceAdd, Nat.reduceLT, Nat.reduceSub, Nat.reduceMul, Nat.reduceLeDiff, if_true, if_false, if_pos, if_neg, Try.sh37, Try.sh33, st19, h37]
theorem l19 : ∀ k j, j + k = 6 → (∃ m, j ≤ m ∧ m < 6 ∧ powP A m = idP A.length) → iter (roundA Try.cfg 19 iter (call Try.cfg) 0 a) (st19 A j) = some (.exit 0, [(5, I ((ordF A k j : Int) + 1))], [])
  | 0, j, hj, ⟨m, h1, h2, h3⟩ => by omega
  | k + 1, j, hj, ⟨m, h1, h2, h3⟩ => by
    by_cases he : powP A j = idP A.length
    · rw [ordF, if_pos he]
      exact iter_last (r19b h hv (by omega) (decide_eq_true he)) (by simp)
    · rw [ordF, if_neg he]
      have : j ≠ m := fun e => he (by rw [e]; exact h3)
      exact iter_normal (r19a h hv (by omega) (decide_eq_false he)) (l19 k (j + 1) (by omega) ⟨m, by omega, h2, h3⟩)
end
theorem call19 {A : List Int} (hA : A.length ≤ 1000) : call Try.cfg 19 [Is A] [] = some (.tu [I (ordL A).1, I (ordL A).2], []) := by
  refine call_step ?_
  have v1 := call23u hA
  cases hv : validL A with
  | false =>
    rw [hv] at v1
    have e : ordL A = (0, 1) := by simp [ordL, hv]
    rw [e]
    simp -implicitDefEqProofs (maxSteps := 1000000) (disch := omega) only [stepA, bodyA, Try.cfgO, Try.sh19, Try.sh23, Try.func19, Try.f19, push_cast, ↓dstAt_zero, ↓dstAt_succ, ↓arun_skip, ↓arun_region, ↓arun_seq, ↓arun_cond, ↓arun_block, ↓arun_loop, ↓arun_exit, ↓arun_ret, aops_nil, aops_cons, aops_cons_guard, ↓putA_some, ↓putA_none, ↓aop_move, ↓aop_assign, ↓aop_pick, ↓aop_alloc, ↓aop_box, ↓aop_build, ↓aop_buildSlice, ↓aop_load, ↓aop_store, ↓aop_nilCheck, ↓aop_binOp, ↓aop_unOp, ↓aop_convert, ↓aop_makeSlice, ↓aop_fieldAddr, ↓aop_field, ↓aop_indexAddr, ↓aop_index, ↓aop_lookup, ↓aop_mapUpdate, ↓aop_insert, ↓aop_extract, ↓aop_callB, ↓aop_callF, ↓aop_callT, ↓aop_makeFunc, ↓aop_makeMap, ↓aop_slice, ↓aevs_nil, ↓aevs_cons, ↓evP_nil, ↓evP_cons, ↓aevO_none, ↓aevO_some, ↓reduceIte, reduceCtorEq, Nat.reduceEqDiff, Nat.reduceAdd, Nat.reduceLT, Nat.reduceSub, Nat.reduceMul, Nat.reduceLeDiff, if_true, if_false, if_pos, if_neg, v1]
    try rfl
  | true =>
    rw [hv] at v1
    have h6 := valid_len hv
    have e : ordL A = ((ordF A 6 0 : Int) + 1, 0) := by simp [ordL, hv]
    rw [e]
    have hu := call31u (n := A.length) (by omega)
    have hi := idP_length A.length
    cases hl : loopOf 0 Try.f19 with
    | none => cases hl
    | some a =>
      have hH := l19 hl hv 6 0 rfl (by
        have := valid_all ord_all hv
        simp only [ordOk, List.any_eq_true, List.mem_range, decide_eq_true_eq] at this
        obtain ⟨m, h1, h2⟩ := this
        exact ⟨m, by omega, h1, h2⟩)
      cases hl
      have e0 : powP A 0 = A := rfl
      simp only [st19, Is, Int.natCast_zero, e0, hi, Int.zero_add] at hH
      simp -implicitDefEqProofs (maxSteps := 1000000) (disch := omega) only [stepA, bodyA, Try.cfgO, Try.sh19, Try.sh23, Try.sh31, Try.func19, Try.f19, push_cast, ↓dstAt_zero, ↓dstAt_succ, ↓arun_skip, ↓arun_region, ↓arun_seq, ↓arun_cond, ↓arun_block, ↓arun_loop, ↓arun_exit, ↓arun_ret, aops_nil, aops_cons, aops_cons_guard, ↓putA_some, ↓putA_none, ↓aop_move, ↓aop_assign, ↓aop_pick, ↓aop_alloc, ↓aop_box, ↓aop_build, ↓aop_buildSlice, ↓aop_load, ↓aop_store, ↓aop_nilCheck, ↓aop_binOp, ↓aop_unOp, ↓aop_convert, ↓aop_makeSlice, ↓aop_fieldAddr, ↓aop_field, ↓aop_indexAddr, ↓aop_index, ↓aop_lookup, ↓aop_mapUpdate, ↓aop_insert, ↓aop_extract, ↓aop_callB, ↓aop_callF, ↓aop_callT, ↓aop_makeFunc, ↓aop_makeMap, ↓aop_slice, ↓aevs_nil, ↓aevs_cons, ↓evP_nil, ↓evP_cons, ↓aevO_none, ↓aevO_some, ↓reduceIte, reduceCtorEq, Nat.reduceEqDiff, Nat.reduceAdd, Nat.reduceLT, Nat.reduceSub, Nat.reduceMul, Nat.reduceLeDiff, if_true, if_false, if_pos, if_neg, v1, hu, hH]
      try rfl
end Go.Proofs
