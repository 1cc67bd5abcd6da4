/- Compose, ref.Compose, Inverse, ref.Inverse. -/
import Derived.Test.YtdodfimekcoclaaF24
import Derived.Test.YtdodfimekcoclaaF33
set_option linter.unusedVariables false
set_option linter.unusedSimpArgs false
set_option linter.unusedSectionVars false
namespace Go.Proofs
open Go.AI
set_option maxRecDepth 20000
theorem seenL_range (n : Int) : ∀ (l : List Int) (bs : List Bool), seenL n l bs = true → ∀ x ∈ l, 0 ≤ x ∧ x < n
  | [], _, _, x, hx => by cases hx
  | y :: r, bs, h, x, hx => by
    simp only [seenL] at h
    split at h
    · cases h
    · split at h
      · cases h
      · split at h
        · cases h
        · rcases List.mem_cons.1 hx with rfl | hx
          · omega
          · exact seenL_range n r _ h x hx
theorem valid_len {A : List Int} (h : validL A = true) : A.length ≤ 6 := by
  simp only [validL, Bool.and_eq_true, decide_eq_true_eq] at h
  exact h.1
theorem valid_range {A : List Int} (h : validL A = true) {i : Nat} (hi : i < A.length) : 0 ≤ A.getD i 0 ∧ A.getD i 0 < A.length := by
  simp only [validL, Bool.and_eq_true, decide_eq_true_eq] at h
  refine seenL_range _ A _ h.2 _ ?_
  have : A.getD i 0 = A[i] := by simp [hi]
  rw [this]
  exact List.getElem_mem hi
theorem call23u {A : List Int} (hA : A.length ≤ 1000) : call Try.cfg 23 [.sl false A.length (A.map I)] [] = some (.v (.bool (validL A)), []) := call23 A hA
theorem call24u {A : List Int} (hA : A.length ≤ 1000) : call Try.cfg 24 [.sl false A.length (A.map I)] [] = some (.v (.bool (validL A)), []) := call24 A hA
def compL (A C : List Int) : List Int × Int := if validL A && validL C then (if A.length = C.length then (mulP A C, 0) else ([], 4)) else ([], 1)
def rep2 (r : List Int × Int) : AV := .tu [Is r.1, I r.2]
theorem mulP_length (A C : List Int) : (mulP A C).length = A.length := by simp [mulP]
theorem call33u {A C : List Int} (hA : A.length ≤ 6) (hC : C.length = A.length) (hr : ∀ i, i < A.length → 0 ≤ C.getD i 0 ∧ C.getD i 0 < A.length) : call Try.cfg 33 [.sl false A.length (A.map I), .sl false C.length (C.map I)] [] = some (.sl false A.length ((mulP A C).map I), []) := call33 hA hC hr
theorem call41u {A C : List Int} (hA : A.length ≤ 6) (hC : C.length = A.length) (hr : ∀ i, i < A.length → 0 ≤ C.getD i 0 ∧ C.getD i 0 < A.length) : call Try.cfg 41 [.sl false A.length (A.map I), .sl false C.length (C.map I)] [] = some (.sl false A.length ((mulP A C).map I), []) := call41 hA hC hr
theorem call17 {A C : List Int} (hA : A.length ≤ 1000) (hC : C.length ≤ 1000) : call Try.cfg 17 [Is A, Is C] [] = some (rep2 (compL A C), []) := by
  refine call_step ?_
  have v1 := call23u hA
  have v2 := call23u hC
  cases hv : validL A with
  | false =>
    rw [hv] at v1
    have e : compL A C = ([], 1) := by simp [compL, hv]
    rw [e]
    simp -implicitDefEqProofs (maxSteps := 1000000) (disch := omega) only [stepA, bodyA, Try.cfgO, Try.sh17, Try.sh23, Try.func17, Try.f17, push_cast, ↓dstAt_zero, ↓dstAt_succ, ↓arun_skip, ↓arun_region, ↓arun_seq, ↓arun_cond, ↓arun_block, ↓arun_loop, ↓arun_exit, ↓arun_ret, aops_nil, aops_cons, aops_cons_guard, ↓putA_some, ↓putA_none, ↓aop_move, ↓aop_assign, ↓aop_pick, ↓aop_alloc, ↓aop_box, ↓aop_build, ↓aop_buildSlice, ↓aop_load, ↓aop_store, ↓aop_nilCheck, ↓aop_binOp, ↓aop_unOp, ↓aop_convert, ↓aop_makeSlice, ↓aop_fieldAddr, ↓aop_field, ↓aop_indexAddr, ↓aop_index, ↓aop_lookup, ↓aop_mapUpdate, ↓aop_insert, ↓aop_extract, ↓aop_callB, ↓aop_callF, ↓aop_callT, ↓aop_makeFunc, ↓aop_makeMap, ↓aop_slice, ↓aevs_nil, ↓aevs_cons, ↓evP_nil, ↓evP_cons, ↓aevO_none, ↓aevO_some, ↓reduceIte, reduceCtorEq, Nat.reduceEqDiff, Nat.reduceAdd, Nat.reduceLT, Nat.reduceSub, Nat.reduceMul, Nat.reduceLeDiff, if_true, if_false, if_pos, if_neg, v1, rep2]
    try rfl
  | true =>
    rw [hv] at v1
    cases hw : validL C with
    | false =>
      rw [hw] at v2
      have e : compL A C = ([], 1) := by simp [compL, hv, hw]
      rw [e]
      simp -implicitDefEqProofs (maxSteps := 1000000) (disch := omega) only [stepA, bodyA, Try.cfgO, Try.sh17, Try.sh23, Try.func17, Try.f17, push_cast, ↓dstAt_zero, ↓dstAt_succ, ↓arun_skip, ↓arun_region, ↓arun_seq, ↓arun_cond, ↓arun_block, ↓arun_loop, ↓arun_exit, ↓arun_ret, aops_nil, aops_cons, aops_cons_guard, ↓putA_some, ↓putA_none, ↓aop_move, ↓aop_assign, ↓aop_pick, ↓aop_alloc, ↓aop_box, ↓aop_build, ↓aop_buildSlice, ↓aop_load, ↓aop_store, ↓aop_nilCheck, ↓aop_binOp, ↓aop_unOp, ↓aop_convert, ↓aop_makeSlice, ↓aop_fieldAddr, ↓aop_field, ↓aop_indexAddr, ↓aop_index, ↓aop_lookup, ↓aop_mapUpdate, ↓aop_insert, ↓aop_extract, ↓aop_callB, ↓aop_callF, ↓aop_callT, ↓aop_makeFunc, ↓aop_makeMap, ↓aop_slice, ↓aevs_nil, ↓aevs_cons, ↓evP_nil, ↓evP_cons, ↓aevO_none, ↓aevO_some, ↓reduceIte, reduceCtorEq, Nat.reduceEqDiff, Nat.reduceAdd, Nat.reduceLT, Nat.reduceSub, Nat.reduceMul, Nat.reduceLeDiff, if_true, if_false, if_pos, if_neg, v1, v2, rep2]
      try rfl
    | true =>
      rw [hw] at v2
      have h6 := valid_len hv
      by_cases hl : A.length = C.length
      · have e : compL A C = (mulP A C, 0) := by simp [compL, hv, hw, hl]
        rw [e]
        have hm := call33u (A := A) (C := C) h6 hl.symm (fun i hi => by rw [hl]; exact valid_range hw (by omega))
        have hlen := mulP_length A C
        simp -implicitDefEqProofs (maxSteps := 1000000) (disch := omega) only [stepA, bodyA, Try.cfgO, Try.sh17, Try.sh23, Try.sh33, Try.func17, Try.f17, push_cast, ↓dstAt_zero, ↓dstAt_succ, ↓arun_skip, ↓arun_region, ↓arun_seq, ↓arun_cond, ↓arun_block, ↓arun_loop, ↓arun_exit, ↓arun_ret, aops_nil, aops_cons, aops_cons_guard, ↓putA_some, ↓putA_none, ↓aop_move, ↓aop_assign, ↓aop_pick, ↓aop_alloc, ↓aop_box, ↓aop_build, ↓aop_buildSlice, ↓aop_load, ↓aop_store, ↓aop_nilCheck, ↓aop_binOp, ↓aop_unOp, ↓aop_convert, ↓aop_makeSlice, ↓aop_fieldAddr, ↓aop_field, ↓aop_indexAddr, ↓aop_index, ↓aop_lookup, ↓aop_mapUpdate, ↓aop_insert, ↓aop_extract, ↓aop_callB, ↓aop_callF, ↓aop_callT, ↓aop_makeFunc, ↓aop_makeMap, ↓aop_slice, ↓aevs_nil, ↓aevs_cons, ↓evP_nil, ↓evP_cons, ↓aevO_none, ↓aevO_some, ↓reduceIte, reduceCtorEq, Nat.reduceEqDiff, Nat.reduceAdd, Nat.reduceLT, Nat.reduceSub, Nat.reduceMul, Nat.reduceLeDiff, if_true, if_false, if_pos, if_neg, v1, v2, hm, rep2, hlen]
        try rfl
      · have e : compL A C = ([], 4) := by simp [compL, hv, hw, hl]
        rw [e]
        simp -implicitDefEqProofs (maxSteps := 1000000) (disch := omega) only [stepA, bodyA, Try.cfgO, Try.sh17, Try.sh23, Try.func17, Try.f17, push_cast, ↓dstAt_zero, ↓dstAt_succ, ↓arun_skip, ↓arun_region, ↓arun_seq, ↓arun_cond, ↓arun_block, ↓arun_loop, ↓arun_exit, ↓arun_ret, aops_nil, aops_cons, aops_cons_guard, ↓putA_some, ↓putA_none, ↓aop_move, ↓aop_assign, ↓aop_pick, ↓aop_alloc, ↓aop_box, ↓aop_build, ↓aop_buildSlice, ↓aop_load, ↓aop_store, ↓aop_nilCheck, ↓aop_binOp, ↓aop_unOp, ↓aop_convert, ↓aop_makeSlice, ↓aop_fieldAddr, ↓aop_field, ↓aop_indexAddr, ↓aop_index, ↓aop_lookup, ↓aop_mapUpdate, ↓aop_insert, ↓aop_extract, ↓aop_callB, ↓aop_callF, ↓aop_callT, ↓aop_makeFunc, ↓aop_makeMap, ↓aop_slice, ↓aevs_nil, ↓aevs_cons, ↓evP_nil, ↓evP_cons, ↓aevO_none, ↓aevO_some, ↓reduceIte, reduceCtorEq, Nat.reduceEqDiff, Nat.reduceAdd, Nat.reduceLT, Nat.reduceSub, Nat.reduceMul, Nat.reduceLeDiff, if_true, if_false, if_pos, if_neg, v1, v2, rep2]
        try rfl
theorem call21 {A C : List Int} (hA : A.length ≤ 1000) (hC : C.length ≤ 1000) : call Try.cfg 21 [Is A, Is C] [] = some (rep2 (compL A C), []) := by
  refine call_step ?_
  have v1 := call24u hA
  have v2 := call24u hC
  cases hv : validL A with
  | false =>
    rw [hv] at v1
    have e : compL A C = ([], 1) := by simp [compL, hv]
    rw [e]
    simp -implicitDefEqProofs (maxSteps := 1000000) (disch := omega) only [stepA, bodyA, Try.cfgO, Try.sh21, Try.sh24, Try.func21, Try.f21, push_cast, ↓dstAt_zero, ↓dstAt_succ, ↓arun_skip, ↓arun_region, ↓arun_seq, ↓arun_cond, ↓arun_block, ↓arun_loop, ↓arun_exit, ↓arun_ret, aops_nil, aops_cons, aops_cons_guard, ↓putA_some, ↓putA_none, ↓aop_move, ↓aop_assign, ↓aop_pick, ↓aop_alloc, ↓aop_box, ↓aop_build, ↓aop_buildSlice, ↓aop_load, ↓aop_store, ↓aop_nilCheck, ↓aop_binOp, ↓aop_unOp, ↓aop_convert, ↓aop_makeSlice, ↓aop_fieldAddr, ↓aop_field, ↓aop_indexAddr, ↓aop_index, ↓aop_lookup, ↓aop_mapUpdate, ↓aop_insert, ↓aop_extract, ↓aop_callB, ↓aop_callF, ↓aop_callT, ↓aop_makeFunc, ↓aop_makeMap, ↓aop_slice, ↓aevs_nil, ↓aevs_cons, ↓evP_nil, ↓evP_cons, ↓aevO_none, ↓aevO_some, ↓reduceIte, reduceCtorEq, Nat.reduceEqDiff, Nat.reduceAdd, Nat.reduceLT, Nat.reduceSub, Nat.reduceMul, Nat.reduceLeDiff, if_true, if_false, if_pos, if_neg, v1, rep2]
    try rfl
  | true =>
    rw [hv] at v1
    cases hw : validL C with
    | false =>
      rw [hw] at v2
      have e : compL A C = ([], 1) := by simp [compL, hv, hw]
      rw [e]
      simp -implicitDefEqProofs (maxSteps := 1000000) (disch := omega) only [stepA, bodyA, Try.cfgO, Try.sh21, Try.sh24, Try.func21, Try.f21, push_cast, ↓dstAt_zero, ↓dstAt_succ, ↓arun_skip, ↓arun_region, ↓arun_seq, ↓arun_cond, ↓arun_block, ↓arun_loop, ↓arun_exit, ↓arun_ret, aops_nil, aops_cons, aops_cons_guard, ↓putA_some, ↓putA_none, ↓aop_move, ↓aop_assign, ↓aop_pick, ↓aop_alloc, ↓aop_box, ↓aop_build, ↓aop_buildSlice, ↓aop_load, ↓aop_store, ↓aop_nilCheck, ↓aop_binOp, ↓aop_unOp, ↓aop_convert, ↓aop_makeSlice, ↓aop_fieldAddr, ↓aop_field, ↓aop_indexAddr, ↓aop_index, ↓aop_lookup, ↓aop_mapUpdate, ↓aop_insert, ↓aop_extract, ↓aop_callB, ↓aop_callF, ↓aop_callT, ↓aop_makeFunc, ↓aop_makeMap, ↓aop_slice, ↓aevs_nil, ↓aevs_cons, ↓evP_nil, ↓evP_cons, ↓aevO_none, ↓aevO_some, ↓reduceIte, reduceCtorEq, Nat.reduceEqDiff, Nat.reduceAdd, Nat.reduceLT, Nat.reduceSub, Nat.reduceMul, Nat.reduceLeDiff, if_true, if_false, if_pos, if_neg, v1, v2, rep2]
      try rfl
    | true =>
      rw [hw] at v2
      have h6 := valid_len hv
      by_cases hl : A.length = C.length
      · have e : compL A C = (mulP A C, 0) := by simp [compL, hv, hw, hl]
        rw [e]
        have hm := call41u (A := A) (C := C) h6 hl.symm (fun i hi => by rw [hl]; exact valid_range hw (by omega))
        have hlen := mulP_length A C
        simp -implicitDefEqProofs (maxSteps := 1000000) (disch := omega) only [stepA, bodyA, Try.cfgO, Try.sh21, Try.sh24, Try.sh41, Try.func21, Try.f21, push_cast, ↓dstAt_zero, ↓dstAt_succ, ↓arun_skip, ↓arun_region, ↓arun_seq, ↓arun_cond, ↓arun_block, ↓arun_loop, ↓arun_exit, ↓arun_ret, aops_nil, aops_cons, aops_cons_guard, ↓putA_some, ↓putA_none, ↓aop_move, ↓aop_assign, ↓aop_pick, ↓aop_alloc, ↓aop_box, ↓aop_build, ↓aop_buildSlice, ↓aop_load, ↓aop_store, ↓aop_nilCheck, ↓aop_binOp, ↓aop_unOp, ↓aop_convert, ↓aop_makeSlice, ↓aop_fieldAddr, ↓aop_field, ↓aop_indexAddr, ↓aop_index, ↓aop_lookup, ↓aop_mapUpdate, ↓aop_insert, ↓aop_extract, ↓aop_callB, ↓aop_callF, ↓aop_callT, ↓aop_makeFunc, ↓aop_makeMap, ↓aop_slice, ↓aevs_nil, ↓aevs_cons, ↓evP_nil, ↓evP_cons, ↓aevO_none, ↓aevO_some, ↓reduceIte, reduceCtorEq, Nat.reduceEqDiff, Nat.reduceAdd, Nat.reduceLT, Nat.reduceSub, Nat.reduceMul, Nat.reduceLeDiff, if_true, if_false, if_pos, if_neg, v1, v2, hm, rep2, hlen]
        try rfl
      · have e : compL A C = ([], 4) := by simp [compL, hv, hw, hl]
        rw [e]
        simp -implicitDefEqProofs (maxSteps := 1000000) (disch := omega) only [stepA, bodyA, Try.cfgO, Try.sh21, Try.sh24, Try.func21, Try.f21, push_cast, ↓dstAt_zero, ↓dstAt_succ, ↓arun_skip, ↓arun_region, ↓arun_seq, ↓arun_cond, ↓arun_block, ↓arun_loop, ↓arun_exit, ↓arun_ret, aops_nil, aops_cons, aops_cons_guard, ↓putA_some, ↓putA_none, ↓aop_move, ↓aop_assign, ↓aop_pick, ↓aop_alloc, ↓aop_box, ↓aop_build, ↓aop_buildSlice, ↓aop_load, ↓aop_store, ↓aop_nilCheck, ↓aop_binOp, ↓aop_unOp, ↓aop_convert, ↓aop_makeSlice, ↓aop_fieldAddr, ↓aop_field, ↓aop_indexAddr, ↓aop_index, ↓aop_lookup, ↓aop_mapUpdate, ↓aop_insert, ↓aop_extract, ↓aop_callB, ↓aop_callF, ↓aop_callT, ↓aop_makeFunc, ↓aop_makeMap, ↓aop_slice, ↓aevs_nil, ↓aevs_cons, ↓evP_nil, ↓evP_cons, ↓aevO_none, ↓aevO_some, ↓reduceIte, reduceCtorEq, Nat.reduceEqDiff, Nat.reduceAdd, Nat.reduceLT, Nat.reduceSub, Nat.reduceMul, Nat.reduceLeDiff, if_true, if_false, if_pos, if_neg, v1, v2, rep2]
        try rfl
end Go.Proofs
