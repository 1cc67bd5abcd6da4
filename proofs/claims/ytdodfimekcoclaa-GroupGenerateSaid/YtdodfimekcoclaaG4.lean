/- Texts of one proof, joined: F13, AiLaw, F9c, F5, F3, LawGenerate. Conditions: none of its own; each part names what it shows. -/
import Derived.ProofKit
import Derived.Test.YtdodfimekcoclaaRows
import Derived.Test.YtdodfimekcoclaaG3
/- few, Lists, ref.Valid. -/
set_option linter.unusedVariables false
set_option linter.unusedSimpArgs false
set_option linter.unusedSectionVars false
namespace Go.Proofs
open Go.AI
set_option maxRecDepth 20000
section
variable {a : Code} (h : loopOf 0 Try.f14 = some a) {L : List (List Int)} (hL : L.length ≤ 1000000)
include h hL
def st14 (L : List (List Int)) (i : Nat) : St := ([(0, Iss L), (3, I i)], [])
theorem r14a {i : Nat} (hi : i < L.length) (hq : decide ((L.getD i []).length ≤ 20) = true) : roundA Try.cfg 14 iter (call Try.cfg) 0 a (st14 L i) = some (.normal, st14 L (i + 1)) := by
  cases h
  have hx : L[i]? = some (L.getD i []) := by simp [hi]
  have he := of_decide_eq_true hq
  generalize L.getD i [] = x at *
  simp -implicitDefEqProofs (disch := omega) only [push_cast, ↓dstAt_zero, ↓dstAt_succ, ↓arun_skip, ↓arun_region, ↓arun_seq, ↓arun_cond, ↓arun_block, ↓arun_loop, ↓arun_exit, ↓arun_ret, aops_nil, aops_cons, aops_cons_guard, ↓putA_some, ↓putA_none, ↓aop_move, ↓aop_assign, ↓aop_pick, ↓aop_alloc, ↓aop_box, ↓aop_build, ↓aop_buildSlice, ↓aop_load, ↓aop_store, ↓aop_nilCheck, ↓aop_binOp, ↓aop_unOp, ↓aop_convert, ↓aop_makeSlice, ↓aop_fieldAddr, ↓aop_field, ↓aop_indexAddr, ↓aop_index, ↓aop_lookup, ↓aop_mapUpdate, ↓aop_insert, ↓aop_extract, ↓aop_callB, ↓aop_callF, ↓aop_callT, ↓aop_makeFunc, ↓aop_makeMap, ↓aop_slice, ↓aevs_nil, ↓aevs_cons, ↓evP_nil, ↓evP_cons, ↓aevO_none, ↓aevO_some, ↓reduceIte, reduceCtorEq, Nat.reduceEqDiff, Nat.reduceAdd, Nat.reduceLT, Nat.reduceSub, Nat.reduceMul, Nat.reduceLeDiff, if_true, if_false, if_pos, if_neg, st14, Iss, hx]
  try rfl
theorem r14b {i : Nat} (hi : i < L.length) (hq : decide ((L.getD i []).length ≤ 20) = false) : roundA Try.cfg 14 iter (call Try.cfg) 0 a (st14 L i) = some (.ret, [(2, B false)], []) := by
  cases h
  have hx : L[i]? = some (L.getD i []) := by simp [hi]
  have he := of_decide_eq_false hq
  generalize L.getD i [] = x at *
  simp -implicitDefEqProofs (disch := omega) only [push_cast, ↓dstAt_zero, ↓dstAt_succ, ↓arun_skip, ↓arun_region, ↓arun_seq, ↓arun_cond, ↓arun_block, ↓arun_loop, ↓arun_exit, ↓arun_ret, aops_nil, aops_cons, aops_cons_guard, ↓putA_some, ↓putA_none, ↓aop_move, ↓aop_assign, ↓aop_pick, ↓aop_alloc, ↓aop_box, ↓aop_build, ↓aop_buildSlice, ↓aop_load, ↓aop_store, ↓aop_nilCheck, ↓aop_binOp, ↓aop_unOp, ↓aop_convert, ↓aop_makeSlice, ↓aop_fieldAddr, ↓aop_field, ↓aop_indexAddr, ↓aop_index, ↓aop_lookup, ↓aop_mapUpdate, ↓aop_insert, ↓aop_extract, ↓aop_callB, ↓aop_callF, ↓aop_callT, ↓aop_makeFunc, ↓aop_makeMap, ↓aop_slice, ↓aevs_nil, ↓aevs_cons, ↓evP_nil, ↓evP_cons, ↓aevO_none, ↓aevO_some, ↓reduceIte, reduceCtorEq, Nat.reduceEqDiff, Nat.reduceAdd, Nat.reduceLT, Nat.reduceSub, Nat.reduceMul, Nat.reduceLeDiff, if_true, if_false, if_pos, if_neg, st14, Iss, hx]
theorem r14c : roundA Try.cfg 14 iter (call Try.cfg) 0 a (st14 L L.length) = some (.exit 0, [], []) := by
  cases h
  simp -implicitDefEqProofs (disch := omega) only [push_cast, ↓dstAt_zero, ↓dstAt_succ, ↓arun_skip, ↓arun_region, ↓arun_seq, ↓arun_cond, ↓arun_block, ↓arun_loop, ↓arun_exit, ↓arun_ret, aops_nil, aops_cons, aops_cons_guard, ↓putA_some, ↓putA_none, ↓aop_move, ↓aop_assign, ↓aop_pick, ↓aop_alloc, ↓aop_box, ↓aop_build, ↓aop_buildSlice, ↓aop_load, ↓aop_store, ↓aop_nilCheck, ↓aop_binOp, ↓aop_unOp, ↓aop_convert, ↓aop_makeSlice, ↓aop_fieldAddr, ↓aop_field, ↓aop_indexAddr, ↓aop_index, ↓aop_lookup, ↓aop_mapUpdate, ↓aop_insert, ↓aop_extract, ↓aop_callB, ↓aop_callF, ↓aop_callT, ↓aop_makeFunc, ↓aop_makeMap, ↓aop_slice, ↓aevs_nil, ↓aevs_cons, ↓evP_nil, ↓evP_cons, ↓aevO_none, ↓aevO_some, ↓reduceIte, reduceCtorEq, Nat.reduceEqDiff, Nat.reduceAdd, Nat.reduceLT, Nat.reduceSub, Nat.reduceMul, Nat.reduceLeDiff, if_true, if_false, if_pos, if_neg, st14, Iss]
end
def fewL (L : List (List Int)) : Bool := (List.range' 0 L.length).all fun i => decide ((L.getD i []).length ≤ 20)
theorem call14 {L : List (List Int)} (hL : L.length ≤ 1000000) : call Try.cfg 14 [.sl false L.length (L.map Is)] [] = some (B (fewL L), []) := by
  refine call_step ?_
  cases hlo : loopOf 0 Try.f14 with
  | none => cases hlo
  | some a =>
    have hH := iter_all (S := fun i => st14 L i) (q := fun i => decide ((L.getD i []).length ≤ 20)) (fun i hi hq => r14a hlo hL hi hq) (fun i hi hq => r14b hlo hL hi hq) (r14c hlo hL) (by simp) (by simp) L.length 0 (by omega)
    cases hlo
    rw [show ((List.range' 0 L.length).all fun i => decide ((L.getD i []).length ≤ 20)) = fewL L from rfl] at hH
    simp only [st14, Iss, Int.natCast_zero] at hH
    cases hd : fewL L with
    | true =>
      rw [hd, if_pos rfl] at hH
      simp -implicitDefEqProofs (disch := omega) only [stepA, bodyA, Try.cfgO, Try.sh14, Try.func14, Try.f14, push_cast, ↓dstAt_zero, ↓dstAt_succ, ↓arun_skip, ↓arun_region, ↓arun_seq, ↓arun_cond, ↓arun_block, ↓arun_loop, ↓arun_exit, ↓arun_ret, aops_nil, aops_cons, aops_cons_guard, ↓putA_some, ↓putA_none, ↓aop_move, ↓aop_assign, ↓aop_pick, ↓aop_alloc, ↓aop_box, ↓aop_build, ↓aop_buildSlice, ↓aop_load, ↓aop_store, ↓aop_nilCheck, ↓aop_binOp, ↓aop_unOp, ↓aop_convert, ↓aop_makeSlice, ↓aop_fieldAddr, ↓aop_field, ↓aop_indexAddr, ↓aop_index, ↓aop_lookup, ↓aop_mapUpdate, ↓aop_insert, ↓aop_extract, ↓aop_callB, ↓aop_callF, ↓aop_callT, ↓aop_makeFunc, ↓aop_makeMap, ↓aop_slice, ↓aevs_nil, ↓aevs_cons, ↓evP_nil, ↓evP_cons, ↓aevO_none, ↓aevO_some, ↓reduceIte, reduceCtorEq, Nat.reduceEqDiff, Nat.reduceAdd, Nat.reduceLT, Nat.reduceSub, Nat.reduceMul, Nat.reduceLeDiff, if_true, if_false, if_pos, if_neg, hH]
    | false =>
      rw [hd, if_neg (by simp)] at hH
      simp -implicitDefEqProofs (disch := omega) only [stepA, bodyA, Try.cfgO, Try.sh14, Try.func14, Try.f14, push_cast, ↓dstAt_zero, ↓dstAt_succ, ↓arun_skip, ↓arun_region, ↓arun_seq, ↓arun_cond, ↓arun_block, ↓arun_loop, ↓arun_exit, ↓arun_ret, aops_nil, aops_cons, aops_cons_guard, ↓putA_some, ↓putA_none, ↓aop_move, ↓aop_assign, ↓aop_pick, ↓aop_alloc, ↓aop_box, ↓aop_build, ↓aop_buildSlice, ↓aop_load, ↓aop_store, ↓aop_nilCheck, ↓aop_binOp, ↓aop_unOp, ↓aop_convert, ↓aop_makeSlice, ↓aop_fieldAddr, ↓aop_field, ↓aop_indexAddr, ↓aop_index, ↓aop_lookup, ↓aop_mapUpdate, ↓aop_insert, ↓aop_extract, ↓aop_callB, ↓aop_callF, ↓aop_callT, ↓aop_makeFunc, ↓aop_makeMap, ↓aop_slice, ↓aevs_nil, ↓aevs_cons, ↓evP_nil, ↓evP_cons, ↓aevO_none, ↓aevO_some, ↓reduceIte, reduceCtorEq, Nat.reduceEqDiff, Nat.reduceAdd, Nat.reduceLT, Nat.reduceSub, Nat.reduceMul, Nat.reduceLeDiff, if_true, if_false, if_pos, if_neg, hH]
theorem call20u {A C : List Int} (hA : A.length ≤ 1000000) (hC : C.length ≤ 1000000) : call Try.cfg 20 [.sl false A.length (A.map I), .sl false C.length (C.map I)] [] = some (.v (.bool (decide (A = C))), []) := call20 hA hC
section
variable {a : Code} (h : loopOf 0 Try.f13 = some a) {A C : List (List Int)} (hA : A.length ≤ 1000000) (hC : C.length = A.length) (hs : ∀ x ∈ A, x.length ≤ 1000000) (hs' : ∀ x ∈ C, x.length ≤ 1000000)
include h hA hC hs hs'
def st13 (A C : List (List Int)) (i : Nat) : St := ([(0, Iss A), (1, Iss C), (5, I i)], [])
theorem r13 {i : Nat} (hi : i < A.length) {r : Bool} (hq : decide (A.getD i [] = C.getD i []) = r) : roundA Try.cfg 13 iter (call Try.cfg) 0 a (st13 A C i) = if r then some (.normal, st13 A C (i + 1)) else some (.ret, [(4, B false)], []) := by
  cases h
  have hx : A[i]? = some (A.getD i []) := by simp [hi]
  have hy : C[i]? = some (C.getD i []) := by simp [hi, hC]
  have h1 := hs _ (List.mem_of_getElem? hx)
  have h2 := hs' _ (List.mem_of_getElem? hy)
  generalize A.getD i [] = x at *
  generalize C.getD i [] = y at *
  cases r with
  | true =>
    simp -implicitDefEqProofs (disch := omega) only [push_cast, ↓dstAt_zero, ↓dstAt_succ, ↓arun_skip, ↓arun_region, ↓arun_seq, ↓arun_cond, ↓arun_block, ↓arun_loop, ↓arun_exit, ↓arun_ret, aops_nil, aops_cons, aops_cons_guard, ↓putA_some, ↓putA_none, ↓aop_move, ↓aop_assign, ↓aop_pick, ↓aop_alloc, ↓aop_box, ↓aop_build, ↓aop_buildSlice, ↓aop_load, ↓aop_store, ↓aop_nilCheck, ↓aop_binOp, ↓aop_unOp, ↓aop_convert, ↓aop_makeSlice, ↓aop_fieldAddr, ↓aop_field, ↓aop_indexAddr, ↓aop_index, ↓aop_lookup, ↓aop_mapUpdate, ↓aop_insert, ↓aop_extract, ↓aop_callB, ↓aop_callF, ↓aop_callT, ↓aop_makeFunc, ↓aop_makeMap, ↓aop_slice, ↓aevs_nil, ↓aevs_cons, ↓evP_nil, ↓evP_cons, ↓aevO_none, ↓aevO_some, ↓reduceIte, reduceCtorEq, Nat.reduceEqDiff, Nat.reduceAdd, Nat.reduceLT, Nat.reduceSub, Nat.reduceMul, Nat.reduceLeDiff, if_true, if_false, if_pos, if_neg, Try.sh20, st13, Iss, hx, hy, call20u, hq]
    try rfl
  | false => simp -implicitDefEqProofs (disch := omega) only [push_cast, ↓dstAt_zero, ↓dstAt_succ, ↓arun_skip, ↓arun_region, ↓arun_seq, ↓arun_cond, ↓arun_block, ↓arun_loop, ↓arun_exit, ↓arun_ret, aops_nil, aops_cons, aops_cons_guard, ↓putA_some, ↓putA_none, ↓aop_move, ↓aop_assign, ↓aop_pick, ↓aop_alloc, ↓aop_box, ↓aop_build, ↓aop_buildSlice, ↓aop_load, ↓aop_store, ↓aop_nilCheck, ↓aop_binOp, ↓aop_unOp, ↓aop_convert, ↓aop_makeSlice, ↓aop_fieldAddr, ↓aop_field, ↓aop_indexAddr, ↓aop_index, ↓aop_lookup, ↓aop_mapUpdate, ↓aop_insert, ↓aop_extract, ↓aop_callB, ↓aop_callF, ↓aop_callT, ↓aop_makeFunc, ↓aop_makeMap, ↓aop_slice, ↓aevs_nil, ↓aevs_cons, ↓evP_nil, ↓evP_cons, ↓aevO_none, ↓aevO_some, ↓reduceIte, reduceCtorEq, Nat.reduceEqDiff, Nat.reduceAdd, Nat.reduceLT, Nat.reduceSub, Nat.reduceMul, Nat.reduceLeDiff, if_true, if_false, if_pos, if_neg, Try.sh20, st13, Iss, hx, hy, call20u, hq]
theorem r13c : roundA Try.cfg 13 iter (call Try.cfg) 0 a (st13 A C A.length) = some (.exit 0, [], []) := by
  cases h
  simp -implicitDefEqProofs (disch := omega) only [push_cast, ↓dstAt_zero, ↓dstAt_succ, ↓arun_skip, ↓arun_region, ↓arun_seq, ↓arun_cond, ↓arun_block, ↓arun_loop, ↓arun_exit, ↓arun_ret, aops_nil, aops_cons, aops_cons_guard, ↓putA_some, ↓putA_none, ↓aop_move, ↓aop_assign, ↓aop_pick, ↓aop_alloc, ↓aop_box, ↓aop_build, ↓aop_buildSlice, ↓aop_load, ↓aop_store, ↓aop_nilCheck, ↓aop_binOp, ↓aop_unOp, ↓aop_convert, ↓aop_makeSlice, ↓aop_fieldAddr, ↓aop_field, ↓aop_indexAddr, ↓aop_index, ↓aop_lookup, ↓aop_mapUpdate, ↓aop_insert, ↓aop_extract, ↓aop_callB, ↓aop_callF, ↓aop_callT, ↓aop_makeFunc, ↓aop_makeMap, ↓aop_slice, ↓aevs_nil, ↓aevs_cons, ↓evP_nil, ↓evP_cons, ↓aevO_none, ↓aevO_some, ↓reduceIte, reduceCtorEq, Nat.reduceEqDiff, Nat.reduceAdd, Nat.reduceLT, Nat.reduceSub, Nat.reduceMul, Nat.reduceLeDiff, if_true, if_false, if_pos, if_neg, st13, Iss]
end
theorem call13 {A C : List (List Int)} (hA : A.length ≤ 1000000) (hC : C.length ≤ 1000000) (hs : ∀ x ∈ A, x.length ≤ 1000000) (hs' : ∀ x ∈ C, x.length ≤ 1000000) :
    call Try.cfg 13 [.sl false A.length (A.map Is), .sl false C.length (C.map Is)] [] = some (.v (.bool (decide (A = C))), []) := by
  refine call_step ?_
  by_cases hl : C.length = A.length
  · cases hlo : loopOf 0 Try.f13 with
    | none => cases hlo
    | some a =>
      have hH := iter_all (S := fun i => st13 A C i) (q := fun i => decide (A.getD i [] = C.getD i [])) (fun i hi hq => r13 hlo hA hl hs hs' hi hq) (fun i hi hq => r13 hlo hA hl hs hs' hi hq) (r13c hlo hA hl hs hs') (by simp) (by simp) A.length 0 (by omega)
      cases hlo
      rw [all_eq [] hl.symm] at hH
      simp only [st13, Iss, Int.natCast_zero] at hH
      cases hd : decide (A = C) with
      | true =>
        rw [hd, if_pos rfl] at hH
        simp -implicitDefEqProofs (disch := omega) only [stepA, bodyA, Try.cfgO, Try.sh13, Try.func13, Try.f13, push_cast, ↓dstAt_zero, ↓dstAt_succ, ↓arun_skip, ↓arun_region, ↓arun_seq, ↓arun_cond, ↓arun_block, ↓arun_loop, ↓arun_exit, ↓arun_ret, aops_nil, aops_cons, aops_cons_guard, ↓putA_some, ↓putA_none, ↓aop_move, ↓aop_assign, ↓aop_pick, ↓aop_alloc, ↓aop_box, ↓aop_build, ↓aop_buildSlice, ↓aop_load, ↓aop_store, ↓aop_nilCheck, ↓aop_binOp, ↓aop_unOp, ↓aop_convert, ↓aop_makeSlice, ↓aop_fieldAddr, ↓aop_field, ↓aop_indexAddr, ↓aop_index, ↓aop_lookup, ↓aop_mapUpdate, ↓aop_insert, ↓aop_extract, ↓aop_callB, ↓aop_callF, ↓aop_callT, ↓aop_makeFunc, ↓aop_makeMap, ↓aop_slice, ↓aevs_nil, ↓aevs_cons, ↓evP_nil, ↓evP_cons, ↓aevO_none, ↓aevO_some, ↓reduceIte, reduceCtorEq, Nat.reduceEqDiff, Nat.reduceAdd, Nat.reduceLT, Nat.reduceSub, Nat.reduceMul, Nat.reduceLeDiff, if_true, if_false, if_pos, if_neg, hH]
      | false =>
        rw [hd, if_neg (by simp)] at hH
        simp -implicitDefEqProofs (disch := omega) only [stepA, bodyA, Try.cfgO, Try.sh13, Try.func13, Try.f13, push_cast, ↓dstAt_zero, ↓dstAt_succ, ↓arun_skip, ↓arun_region, ↓arun_seq, ↓arun_cond, ↓arun_block, ↓arun_loop, ↓arun_exit, ↓arun_ret, aops_nil, aops_cons, aops_cons_guard, ↓putA_some, ↓putA_none, ↓aop_move, ↓aop_assign, ↓aop_pick, ↓aop_alloc, ↓aop_box, ↓aop_build, ↓aop_buildSlice, ↓aop_load, ↓aop_store, ↓aop_nilCheck, ↓aop_binOp, ↓aop_unOp, ↓aop_convert, ↓aop_makeSlice, ↓aop_fieldAddr, ↓aop_field, ↓aop_indexAddr, ↓aop_index, ↓aop_lookup, ↓aop_mapUpdate, ↓aop_insert, ↓aop_extract, ↓aop_callB, ↓aop_callF, ↓aop_callT, ↓aop_makeFunc, ↓aop_makeMap, ↓aop_slice, ↓aevs_nil, ↓aevs_cons, ↓evP_nil, ↓evP_cons, ↓aevO_none, ↓aevO_some, ↓reduceIte, reduceCtorEq, Nat.reduceEqDiff, Nat.reduceAdd, Nat.reduceLT, Nat.reduceSub, Nat.reduceMul, Nat.reduceLeDiff, if_true, if_false, if_pos, if_neg, hH]
  · have hd : decide (A = C) = false := decide_eq_false (fun e => hl (by rw [e]))
    rw [hd]
    simp -implicitDefEqProofs (disch := omega) only [stepA, bodyA, Try.cfgO, Try.sh13, Try.func13, Try.f13, push_cast, ↓dstAt_zero, ↓dstAt_succ, ↓arun_skip, ↓arun_region, ↓arun_seq, ↓arun_cond, ↓arun_block, ↓arun_loop, ↓arun_exit, ↓arun_ret, aops_nil, aops_cons, aops_cons_guard, ↓putA_some, ↓putA_none, ↓aop_move, ↓aop_assign, ↓aop_pick, ↓aop_alloc, ↓aop_box, ↓aop_build, ↓aop_buildSlice, ↓aop_load, ↓aop_store, ↓aop_nilCheck, ↓aop_binOp, ↓aop_unOp, ↓aop_convert, ↓aop_makeSlice, ↓aop_fieldAddr, ↓aop_field, ↓aop_indexAddr, ↓aop_index, ↓aop_lookup, ↓aop_mapUpdate, ↓aop_insert, ↓aop_extract, ↓aop_callB, ↓aop_callF, ↓aop_callT, ↓aop_makeFunc, ↓aop_makeMap, ↓aop_slice, ↓aevs_nil, ↓aevs_cons, ↓evP_nil, ↓evP_cons, ↓aevO_none, ↓aevO_some, ↓reduceIte, reduceCtorEq, Nat.reduceEqDiff, Nat.reduceAdd, Nat.reduceLT, Nat.reduceSub, Nat.reduceMul, Nat.reduceLeDiff, if_true, if_false, if_pos, if_neg, ]
end Go.Proofs

/- The abstract interpreter: from a call's answer to a law's row. Conditions: the call's answer; the law's arguments read as trees. -/
set_option linter.unusedVariables false
namespace Go.AI
open Go.ChangeShapes Go.WideShapes Go.ChangeAt Go.RowKit
def K0 (W : World) : Kx := ⟨fun _ => False, fun _ => False, W⟩
def κ0 (W : World) : Kap := kap (K0 W) [] (fun _ => none) W
/-- What a call that answers `true` does in the program. -/
theorem true_sound {c : Cfg} (hF : Fit c) {f : FuncId} {args : List AV} (h : call c f args [] = some (.v (.bool true), [])) {W : World} {cargs : List Value} (hv : VRs (κ0 W) args cargs) :
    Calls c.P f cargs.toArray W fun e W' => e = .returned (.bool true) ∧ Ext (K0 W) W' := by
  have hI : Inv (K0 W) [] (fun _ => none) W := noP_inv (fun b hb => hb.elim) ⟨rfl, rfl, rfl, Nat.le_refl _, fun _ _ _ => rfl, fun _ => rfl⟩
  exact ((call_sound hF f args [] _ _ h).2.2 (K0 W) (fun _ => none) W cargs hI hv).mono fun e W' ⟨u, p', h1, h2, h3, h4⟩ => by
    cases h4.v_eq
    exact ⟨h1, h2.ext⟩
theorem Ext.below {W W' : World} (h : Ext (K0 W) W') : Below W.heap.size W W' := ⟨h.os, h.tape, h.output, h.size, fun k hk => h.block k hk (fun h => h)⟩
theorem trodAll_stays {H : Type} {enc : TypeId × Value → H} {P : Program} (hl : laidOutB P = true) {W W' : World} {sp : Nat → Bool} (hb : Below W.heap.size W W') : ∀ {ts : List TypeId} {vs : List Value} {ds : List (DataW H)} {ps : List MemPlace},
    (∀ t ∈ ts, P.readableRec t = true ∧ t < P.types.size) → DataW.TrodAll enc P W 0 (fun _ => true) true ts vs ds ps → (∀ x ∈ ps, x.block < W.heap.size) → (∀ x ∈ ps, sp x.block = true) → DataW.TrodAll enc P W' 0 sp true ts vs ds ps
  | [], [], [], ps, _, h, _, _ => h
  | t :: ts, v :: vs, d :: ds, ps, hr, h, hlt, hs => by
    obtain ⟨p, q, h1, h2, rfl⟩ := h
    refine ⟨p, q, ?_, ?_, rfl⟩
    · exact WideElems.Trod_stays hl (hr t (by simp)).1 (hr t (by simp)).2 h1 (fun x hx => hb.same (hlt x (by simp [hx]))) (fun x hx => hs x (by simp [hx]))
    · exact trodAll_stays hl hb (fun t ht => hr t (by simp [ht])) h2 (fun x hx => hlt x (by simp [hx])) (fun x hx => hs x (by simp [hx]))
  | [], _ :: _, _, _, _, h, _, _ => h.elim
  | [], [], _ :: _, _, _, h, _, _ => h.elim
  | _ :: _, [], _, _, _, h, _, _ => h.elim
  | _ :: _, _ :: _, [], _, _, h, _, _ => h.elim
theorem law_post {H : Type} {enc : TypeId × Value → H} {P : Program} (hl : laidOutB P = true) {f : Func} {s : ChangeSpec} {apart fresh handsOn again : Bool} {W W' : World} {args : Array Value} {ds gs : List (DataW H)} {before : List MemPlace}
    (hW : DataW.Whole enc P f.params.toList s.vars apart W args.toList ds gs before) (hvars : s.vars = []) (h1 : (s.fn H (ds ++ gs)).results = [.lit (.bool true)]) (h2 : (s.fn H (ds ++ gs)).args = ds) (h3 : (s.fn H (ds ++ gs)).vars = [])
    {tb : TypeId} (ht : f.resultTypes = #[tb]) (hb : P.underlying tb = some .bool) (hr : ∀ t ∈ f.params.toList, P.readableRec t = true ∧ t < P.types.size) (hE : Ext (K0 W) W') :
    s.post enc P f apart fresh handsOn again W args (.bool true) W' := by
  have hW' := hW
  obtain ⟨p, q, hA, hV, rfl, hfz, hnd⟩ := hW
  rw [hvars] at hV
  obtain ⟨rfl, rfl⟩ := trodVars_none hV
  refine post_of_same (pa := p) (pv := []) hW' ?_ ?_ ?_ rfl (hE.below.frame _) hE.froz ?_
  · intro b sp hd
    rw [h1, ht]
    exact trodAll_mk1 (shut_bool hb true)
  · intro sp hsp
    rw [h2]
    exact trodAll_stays hl hE.below hr hA (fun x hx => hW'.lt x (by simpa using hx)) (fun x hx => hsp x (by simpa using hx))
  · intro sp hsp
    rw [h3, hvars]
    rfl
  · refine ok_one ht rfl ?_
    exact okWide_bool_mk hb true

/-! ### Arguments read as trees -/
section
variable {H : Type} {enc : TypeId × Value → H} {P : Program} {W : World}
/-- One cell that reads at a type. -/
abbrev Rd (enc : TypeId × Value → H) (P : Program) (W : World) (t : TypeId) (u : Value) : Prop := ∃ fuel z, DataW.trod enc P W 0 (fun _ => true) true fuel t [u] = some z
theorem cell_spot {a : Addr} {u : Value} (h : W.cell? a = some u) : a.spot = none := by
  unfold World.cell? at h
  split at h
  · split at h
    · cases h
    · rename_i hs; simpa using hs
  · cases h
theorem add_none {a : Addr} (h : a.spot = none) (i : Nat) : a.add i = ⟨a.block, a.off + i, none⟩ := by
  obtain ⟨b, o, s⟩ := a
  simp only at h
  subst h
  exact abs_add b o i
theorem rd_slice {α : Type} {en : α → AV} (hgood : ∀ x, (en x).good = true) {Q : α → Prop} {t e : TypeId} (ht : P.underlying t = some (.slice e)) (hc : P.cellsOf e = 1)
    (hel : ∀ u, Rd enc P W e u → ∃ x, Q x ∧ VR (κ0 W) (en x) u ∧ u.oneCell' = true) {u : Value} (h : Rd enc P W t u) :
    ∃ l : List α, (∀ x ∈ l, Q x) ∧ l.length ≤ maxLen ∧ VR (κ0 W) (.sl false l.length (l.map en)) u ∧ u.oneCell' = true := by
  obtain ⟨fuel, z, h⟩ := h
  have hg : ∀ l : List α, goodL (l.map en) = true := by
    intro l
    induction l with
    | nil => rfl
    | cons a r ih => simp only [List.map_cons, goodL, hgood, ih, Bool.and_self]
  rcases DataW.trod_slice ht h with ⟨h0, _⟩ | ⟨a, len, cap, elems, rest, n, _, h1, h2, h3, h4, h5, h6, h7, _⟩
  · cases h0
    refine ⟨[], (fun x hx => by cases hx), Nat.zero_le _, ?_, rfl⟩
    simp only [VR]
    exact ⟨none, 0, rfl, Nat.le_refl _, fun _ => rfl, fun h => absurd h (Nat.lt_irrefl _), rfl, [], .nil, rfl⟩
  · cases h1
    have each : ∀ i, i < len → ∃ c x, W.cell? (a.add i) = some c ∧ Q x ∧ VR (κ0 W) (en x) c ∧ c.oneCell' = true := by
      intro i hi
      have h8 := h7 i hi
      have h9 : elems[i]? = some elems[i] := by simp [h6, hi]
      rw [h9, hc, Nat.mul_one, Option.bind_eq_some_iff] at h8
      obtain ⟨cs, hcs, htr⟩ := h8
      simp only [World.cells?, Nat.zero_le, if_true] at hcs
      cases hq : W.cell? ((a.add i).add 0) with
      | none => simp [List.range_succ, hq] at hcs
      | some c =>
        have hcs' : cs = [c] := by simpa [List.range_succ, hq] using hcs.symm
        subst hcs'
        obtain ⟨x, hx1, hx2, hx3⟩ := hel c ⟨n, _, htr⟩
        exact ⟨c, x, by simpa [Addr.add] using hq, hx1, hx2, hx3⟩
    have build : ∀ m, m ≤ len → ∃ (l : List α) (us : List Value), l.length = m ∧ (∀ x ∈ l, Q x) ∧ VRs (κ0 W) (l.map en) us ∧ (∀ j y, us[j]? = some y → W.cell? (a.add j) = some y) ∧ ∀ y ∈ us, y.oneCell' = true := by
      intro m
      induction m with
      | zero => intro _; exact ⟨[], [], rfl, (fun x hx => by cases hx), .nil, (fun j y hj => by simp at hj), (fun y hy => by cases hy)⟩
      | succ m ih =>
        intro hm
        obtain ⟨l, us, g1, g2, g3, g4, g5⟩ := ih (by omega)
        obtain ⟨c, x, e1, e2, e3, e4⟩ := each m (by omega)
        have hul : us.length = m := by rw [g3.length, List.length_map, g1]
        refine ⟨l ++ [x], us ++ [c], by simp [g1], ?_, ?_, ?_, ?_⟩
        · intro y hy
          rcases List.mem_append.1 hy with hy | hy
          · exact g2 y hy
          · simp at hy; subst hy; exact e2
        · rw [List.map_append]
          exact g3.append (.cons e3 .nil)
        · intro j y hj
          rcases Nat.lt_or_ge j us.length with hlt | hge
          · rw [List.getElem?_append_left hlt] at hj
            exact g4 j y hj
          · rw [List.getElem?_append_right hge] at hj
            have hj0 : j - us.length = 0 := by
              have := (List.getElem?_eq_some_iff.1 hj).1
              simp at this
              omega
            rw [hj0] at hj
            have : j = m := by omega
            subst this
            simp at hj
            subst hj
            exact e1
        · intro y hy
          rcases List.mem_append.1 hy with hy | hy
          · exact g5 y hy
          · simp at hy; subst hy; exact e4
    obtain ⟨l, us, g1, g2, g3, g4, g5⟩ := build len (Nat.le_refl _)
    have hspot : us ≠ [] → a.spot = none := by
      intro hne
      obtain ⟨c, r, rfl⟩ := List.exists_cons_of_ne_nil hne
      have := cell_spot (g4 0 c rfl)
      simpa [Addr.add] using this
    have hul : us.length = len := by rw [g3.length, List.length_map, g1]
    refine ⟨l, g2, by omega, ?_, rfl⟩
    simp only [VR]
    refine ⟨some a, cap, by rw [g1], by omega, (fun h => by cases h), fun _ => rfl, hg l, us, g3, ?_, ?_⟩
    · rintro (h | h)
      · exact hspot (fun e => by rw [e] at hul; simp at hul; omega)
      · exact hspot h
    · refine ⟨fun j y hj => ?_, fun hne hA => ?_, g5⟩
      · have hne : us ≠ [] := by intro e; rw [e] at hj; simp at hj
        have := g4 j y hj
        rw [add_none (hspot hne)] at this
        exact this
      · rcases hA with hA | ⟨b, x, v, o, q1, _⟩
        · exact hA.elim
        · simp at q1
theorem rd_int {e : TypeId} {k : IntKind} (he : P.underlying e = some (.int k)) {u : Value} (h : Rd enc P W e u) : ∃ x : Int, (Lit.int k x).wf = true ∧ VR (κ0 W) (.v (.int k x)) u ∧ u.oneCell' = true := by
  obtain ⟨fuel, z, h⟩ := h
  obtain ⟨n, h1, h2, h3⟩ := DataW.trod_int he h
  cases h1
  exact ⟨n, h3, VR_v rfl, rfl⟩
theorem rd_bool {e : TypeId} (he : P.underlying e = some .bool) {u : Value} (h : Rd enc P W e u) : ∃ x : Bool, VR (κ0 W) (.v (.bool x)) u ∧ u.oneCell' = true := by
  obtain ⟨fuel, z, h⟩ := h
  obtain ⟨n, h1, h2⟩ := DataW.trod_bool he h
  cases h1
  exact ⟨n, VR_v rfl, rfl⟩
theorem rd_string {e : TypeId} (he : P.underlying e = some .string) {u : Value} (h : Rd enc P W e u) : ∃ x : ByteArray, x.size ≤ maxLen ∧ VR (κ0 W) (.v (.string x)) u ∧ u.oneCell' = true := by
  obtain ⟨fuel, z, h⟩ := h
  obtain ⟨n, h1, h2, h3⟩ := DataW.trod_string he h
  cases h1
  exact ⟨n, h3, VR_v rfl, rfl⟩
/-- An argument of one cell. -/
theorem rd_arg {r : Reach} {t : TypeId} {v : Value} {d : DataW H} {ps : List MemPlace} (h1 : ∀ fs, P.underlying t ≠ some (.struct fs)) (h2 : ∀ n e, P.underlying t ≠ some (.array n e)) (hv : v.cells.toList = [v]) (h : DataW.Trod enc P W 0 (fun _ => true) true t v d ps) : Rd enc P W t v := by
  obtain ⟨fuel, h⟩ := h
  rw [hv] at h
  exact ⟨fuel, _, h⟩
theorem arg_int {b : Nat} {t : TypeId} {v : Value} {d : DataW H} {ps : List MemPlace} (ht : P.underlying t = some (.int .i64)) (ho : Value.okWide P W .any b t v) (h : DataW.Trod enc P W 0 (fun _ => true) true t v d ps) :
    ∃ x : Int, (-9223372036854775808 ≤ x ∧ x < 9223372036854775808) ∧ VR (κ0 W) (.v (.int .i64 x)) v := by
  obtain ⟨n, rfl⟩ := okWide_int ht ho
  obtain ⟨fuel, h⟩ := h
  obtain ⟨x, h1, h2, _⟩ := rd_int (enc := enc) (W := W) ht ⟨fuel, _, h⟩
  refine ⟨x, ?_, h2⟩
  simp only [Lit.wf, IntKind.min, IntKind.max, IntKind.signed, IntKind.bits] at h1
  simp at h1
  omega
theorem arg_bool {b : Nat} {t : TypeId} {v : Value} {d : DataW H} {ps : List MemPlace} (ht : P.underlying t = some .bool) (ho : Value.okWide P W .any b t v) (h : DataW.Trod enc P W 0 (fun _ => true) true t v d ps) :
    ∃ x : Bool, VR (κ0 W) (.v (.bool x)) v := by
  obtain ⟨n, rfl⟩ := okWide_bool ht ho
  exact ⟨n, VR_v rfl⟩
def i64 (x : Int) : Prop := -9223372036854775808 ≤ x ∧ x < 9223372036854775808
theorem wf_i64 {x : Int} (h : (Lit.int .i64 x).wf = true) : i64 x := by
  simp only [Lit.wf, IntKind.min, IntKind.max, IntKind.signed, IntKind.bits] at h
  simp at h
  unfold i64
  omega
theorem rd_ints {t e : TypeId} (ht : P.underlying t = some (.slice e)) (hc : P.cellsOf e = 1) (he : P.underlying e = some (.int .i64)) {u : Value} (h : Rd enc P W t u) :
    ∃ l : List Int, ((∀ x ∈ l, i64 x) ∧ l.length ≤ maxLen) ∧ VR (κ0 W) (.sl false l.length (l.map fun n => .v (.int .i64 n))) u ∧ u.oneCell' = true := by
  obtain ⟨l, h1, h2, h3, h4⟩ := rd_slice (en := fun n => .v (.int .i64 n)) (Q := i64) (fun _ => rfl) ht hc (fun u hu => by
    obtain ⟨x, g1, g2, g3⟩ := rd_int he hu
    exact ⟨x, wf_i64 g1, g2, g3⟩) h
  exact ⟨l, ⟨h1, h2⟩, h3, h4⟩
theorem arg_slice {b : Nat} {t e : TypeId} {v : Value} {d : DataW H} {ps : List MemPlace} (ht : P.underlying t = some (.slice e)) (ho : Value.okWide P W .any b t v) (h : DataW.Trod enc P W 0 (fun _ => true) true t v d ps) : Rd enc P W t v := by
  obtain ⟨a, len, cap, rfl⟩ := okWide_slice ht ho
  obtain ⟨fuel, h⟩ := h
  exact ⟨fuel, _, h⟩
end
end Go.AI

/- Generate, both: the functions. -/
set_option linter.unusedVariables false
set_option linter.unusedSimpArgs false
set_option linter.unusedSectionVars false
namespace Go.Proofs
open Go.AI
set_option maxRecDepth 20000
set_option maxHeartbeats 4000000
theorem all_gt {G : List (List Int)} {q : List Int → Bool} (h : ((List.range' 0 G.length).all fun i => q (gt G i)) = true) : ∀ x ∈ G, q x = true := by
  intro x hx
  obtain ⟨j, hj⟩ := List.mem_iff_getElem?.1 hx
  have hjl := lt_of_get hj
  rw [gt_some hjl] at hj
  cases hj
  exact List.all_eq_true.1 h j (by simp [List.mem_range']; omega)
/-- The heap of a search. -/
def hp9 (O : List (List Int)) (v : Nat) : Heap := [.cells true 0 [], .cells true v (O.map Is), .map (O.map mk6)]
theorem main9 {m : Nat} {G : List (List Int)} (hm : m ≤ 6) (hGl : G.length ≤ 16) (hG : ∀ g ∈ G, PermN m g) :
    ∃ L : List (List Int), call Try.cfg 36 [.v (.int .i64 m), .sl false G.length (G.map Is)] [] = some (.sl false L.length (L.map Is), []) ∧ L.length ≤ 720 ∧ (∀ x ∈ L, x.length ≤ 6) ∧
      ∀ c, loopOf 4 Try.f9 = some c → ∃ (O : List (List Int)) (v : Nat) (X : Heap), iter (roundA Try.cfg 9 iter (call Try.cfg) 4 c) (s9 G [idP m] 0 0) = some (.exit 4, [(10, .ms 1 v 0 L.length 1)], hp9 O v) ∧
        call Try.cfg 34 [.ms 1 v 0 L.length 1, .fn 35 []] (hp9 O v) = some (.tu [], .cells true 0 [] :: .cells true v (L.map Is) :: .map (O.map mk6) :: X) := by
  obtain ⟨L, h1, h2, h3⟩ := call36 hm hG (by omega)
  have hLp := fun x (hx : x ∈ L) => reach_perm hm hG ((h3 x).1 hx)
  refine ⟨L, h1, perm_count hm h2.nodup hLp, fun x hx => valid_len (hLp x hx).1, fun c hc => ?_⟩
  obtain ⟨O, v, g1, g2⟩ := l9 hm hG (by omega) hc 721 0 [idP m] 0 rfl (by simp) ⟨by simp, fun x hx => by rw [List.mem_singleton] at hx; rw [hx]; exact .one, by simp, fun j hj => by omega⟩
  have hO := invB_len hm hG (by omega) g2
  obtain ⟨O', X, f1, f2, f3⟩ := sort6 (O := O) (v := v) (H := hp9 O v) (b := 1) (by omega) (fun x hx => valid_len (reach_perm hm hG (g2.reach x hx)).1) (by simp [hp9])
  have e : O' = L := asc_unique h2 f3 (f2.nodup_iff.2 g2.nodup) (fun x => by rw [h3, f2.mem_iff, invB_all hm hG (by omega) g2])
  have el : O.length = L.length := by rw [← e, f2.length_eq]
  rw [e] at f1
  rw [el] at f1 g1
  exact ⟨O, v, X, g1, f1⟩
section
variable {n : Int} {G : List (List Int)} (hn : i64 n) (hGl : G.length ≤ 20) (hs : ∀ x ∈ G, x.length ≤ 8)
include hn hGl hs
theorem gen_both : ∃ r : List (List Int) × Int, call Try.cfg 9 [.v (.int .i64 n), .sl false G.length (G.map Is)] [] = some (repL2 r, []) ∧ call Try.cfg 10 [.v (.int .i64 n), .sl false G.length (G.map Is)] [] = some (repL2 r, []) ∧ r.1.length ≤ 720 ∧ ∀ x ∈ r.1, x.length ≤ 6 := by
  by_cases hr : n < 0 ∨ 6 < n
  · refine ⟨([], 3), call_step ?_, call_step ?_, by simp, by simp⟩
    · rcases hr with hr | hr
      · simp -implicitDefEqProofs (maxSteps := 1000000) (disch := omega) only [stepA, bodyA, Try.f9, push_cast, ↓dstAt_zero, ↓dstAt_succ, ↓arun_skip, ↓arun_region, ↓arun_seq, ↓arun_cond, ↓arun_block, ↓arun_loop, ↓arun_exit, ↓arun_ret, aops_nil, aops_cons, aops_cons_guard, ↓putA_some, ↓putA_none, ↓aop_move, ↓aop_assign, ↓aop_pick, ↓aop_alloc, ↓aop_box, ↓aop_build, ↓aop_buildSlice, ↓aop_load, ↓aop_store, ↓aop_nilCheck, ↓aop_binOp, ↓aop_unOp, ↓aop_convert, ↓aop_makeSlice, ↓aop_fieldAddr, ↓aop_field, ↓aop_indexAddr, ↓aop_index, ↓aop_lookup, ↓aop_mapUpdate, ↓aop_insert, ↓aop_extract, ↓aop_callB, ↓aop_callF, ↓aop_callT, ↓aop_makeFunc, ↓aop_makeMap, ↓aop_slice, ↓aevs_nil, ↓aevs_cons, ↓evP_nil, ↓evP_cons, ↓aevO_none, ↓aevO_some, ↓reduceIte, reduceCtorEq, Nat.reduceEqDiff, Nat.reduceAdd, Nat.reduceLT, Nat.reduceSub, Nat.reduceMul, Nat.reduceLeDiff, if_true, if_false, if_pos, if_neg, repL2, Iss]
      · simp -implicitDefEqProofs (maxSteps := 1000000) (disch := omega) only [stepA, bodyA, Try.f9, push_cast, ↓dstAt_zero, ↓dstAt_succ, ↓arun_skip, ↓arun_region, ↓arun_seq, ↓arun_cond, ↓arun_block, ↓arun_loop, ↓arun_exit, ↓arun_ret, aops_nil, aops_cons, aops_cons_guard, ↓putA_some, ↓putA_none, ↓aop_move, ↓aop_assign, ↓aop_pick, ↓aop_alloc, ↓aop_box, ↓aop_build, ↓aop_buildSlice, ↓aop_load, ↓aop_store, ↓aop_nilCheck, ↓aop_binOp, ↓aop_unOp, ↓aop_convert, ↓aop_makeSlice, ↓aop_fieldAddr, ↓aop_field, ↓aop_indexAddr, ↓aop_index, ↓aop_lookup, ↓aop_mapUpdate, ↓aop_insert, ↓aop_extract, ↓aop_callB, ↓aop_callF, ↓aop_callT, ↓aop_makeFunc, ↓aop_makeMap, ↓aop_slice, ↓aevs_nil, ↓aevs_cons, ↓evP_nil, ↓evP_cons, ↓aevO_none, ↓aevO_some, ↓reduceIte, reduceCtorEq, Nat.reduceEqDiff, Nat.reduceAdd, Nat.reduceLT, Nat.reduceSub, Nat.reduceMul, Nat.reduceLeDiff, if_true, if_false, if_pos, if_neg, repL2, Iss]
    · rcases hr with hr | hr
      · simp -implicitDefEqProofs (maxSteps := 1000000) (disch := omega) only [stepA, bodyA, Try.f10, push_cast, ↓dstAt_zero, ↓dstAt_succ, ↓arun_skip, ↓arun_region, ↓arun_seq, ↓arun_cond, ↓arun_block, ↓arun_loop, ↓arun_exit, ↓arun_ret, aops_nil, aops_cons, aops_cons_guard, ↓putA_some, ↓putA_none, ↓aop_move, ↓aop_assign, ↓aop_pick, ↓aop_alloc, ↓aop_box, ↓aop_build, ↓aop_buildSlice, ↓aop_load, ↓aop_store, ↓aop_nilCheck, ↓aop_binOp, ↓aop_unOp, ↓aop_convert, ↓aop_makeSlice, ↓aop_fieldAddr, ↓aop_field, ↓aop_indexAddr, ↓aop_index, ↓aop_lookup, ↓aop_mapUpdate, ↓aop_insert, ↓aop_extract, ↓aop_callB, ↓aop_callF, ↓aop_callT, ↓aop_makeFunc, ↓aop_makeMap, ↓aop_slice, ↓aevs_nil, ↓aevs_cons, ↓evP_nil, ↓evP_cons, ↓aevO_none, ↓aevO_some, ↓reduceIte, reduceCtorEq, Nat.reduceEqDiff, Nat.reduceAdd, Nat.reduceLT, Nat.reduceSub, Nat.reduceMul, Nat.reduceLeDiff, if_true, if_false, if_pos, if_neg, repL2, Iss]
      · simp -implicitDefEqProofs (maxSteps := 1000000) (disch := omega) only [stepA, bodyA, Try.f10, push_cast, ↓dstAt_zero, ↓dstAt_succ, ↓arun_skip, ↓arun_region, ↓arun_seq, ↓arun_cond, ↓arun_block, ↓arun_loop, ↓arun_exit, ↓arun_ret, aops_nil, aops_cons, aops_cons_guard, ↓putA_some, ↓putA_none, ↓aop_move, ↓aop_assign, ↓aop_pick, ↓aop_alloc, ↓aop_box, ↓aop_build, ↓aop_buildSlice, ↓aop_load, ↓aop_store, ↓aop_nilCheck, ↓aop_binOp, ↓aop_unOp, ↓aop_convert, ↓aop_makeSlice, ↓aop_fieldAddr, ↓aop_field, ↓aop_indexAddr, ↓aop_index, ↓aop_lookup, ↓aop_mapUpdate, ↓aop_insert, ↓aop_extract, ↓aop_callB, ↓aop_callF, ↓aop_callT, ↓aop_makeFunc, ↓aop_makeMap, ↓aop_slice, ↓aevs_nil, ↓aevs_cons, ↓evP_nil, ↓evP_cons, ↓aevO_none, ↓aevO_some, ↓reduceIte, reduceCtorEq, Nat.reduceEqDiff, Nat.reduceAdd, Nat.reduceLT, Nat.reduceSub, Nat.reduceMul, Nat.reduceLeDiff, if_true, if_false, if_pos, if_neg, repL2, Iss]
  have hn0 : 0 ≤ n := by omega
  have hn6 : n ≤ 6 := by omega
  by_cases h16 : 16 < G.length
  · refine ⟨([], 2), call_step ?_, call_step ?_, by simp, by simp⟩
    · simp -implicitDefEqProofs (maxSteps := 1000000) (disch := omega) only [stepA, bodyA, Try.f9, push_cast, ↓dstAt_zero, ↓dstAt_succ, ↓arun_skip, ↓arun_region, ↓arun_seq, ↓arun_cond, ↓arun_block, ↓arun_loop, ↓arun_exit, ↓arun_ret, aops_nil, aops_cons, aops_cons_guard, ↓putA_some, ↓putA_none, ↓aop_move, ↓aop_assign, ↓aop_pick, ↓aop_alloc, ↓aop_box, ↓aop_build, ↓aop_buildSlice, ↓aop_load, ↓aop_store, ↓aop_nilCheck, ↓aop_binOp, ↓aop_unOp, ↓aop_convert, ↓aop_makeSlice, ↓aop_fieldAddr, ↓aop_field, ↓aop_indexAddr, ↓aop_index, ↓aop_lookup, ↓aop_mapUpdate, ↓aop_insert, ↓aop_extract, ↓aop_callB, ↓aop_callF, ↓aop_callT, ↓aop_makeFunc, ↓aop_makeMap, ↓aop_slice, ↓aevs_nil, ↓aevs_cons, ↓evP_nil, ↓evP_cons, ↓aevO_none, ↓aevO_some, ↓reduceIte, reduceCtorEq, Nat.reduceEqDiff, Nat.reduceAdd, Nat.reduceLT, Nat.reduceSub, Nat.reduceMul, Nat.reduceLeDiff, if_true, if_false, if_pos, if_neg, repL2, Iss]
    · simp -implicitDefEqProofs (maxSteps := 1000000) (disch := omega) only [stepA, bodyA, Try.f10, push_cast, ↓dstAt_zero, ↓dstAt_succ, ↓arun_skip, ↓arun_region, ↓arun_seq, ↓arun_cond, ↓arun_block, ↓arun_loop, ↓arun_exit, ↓arun_ret, aops_nil, aops_cons, aops_cons_guard, ↓putA_some, ↓putA_none, ↓aop_move, ↓aop_assign, ↓aop_pick, ↓aop_alloc, ↓aop_box, ↓aop_build, ↓aop_buildSlice, ↓aop_load, ↓aop_store, ↓aop_nilCheck, ↓aop_binOp, ↓aop_unOp, ↓aop_convert, ↓aop_makeSlice, ↓aop_fieldAddr, ↓aop_field, ↓aop_indexAddr, ↓aop_index, ↓aop_lookup, ↓aop_mapUpdate, ↓aop_insert, ↓aop_extract, ↓aop_callB, ↓aop_callF, ↓aop_callT, ↓aop_makeFunc, ↓aop_makeMap, ↓aop_slice, ↓aevs_nil, ↓aevs_cons, ↓evP_nil, ↓evP_cons, ↓aevO_none, ↓aevO_some, ↓reduceIte, reduceCtorEq, Nat.reduceEqDiff, Nat.reduceAdd, Nat.reduceLT, Nat.reduceSub, Nat.reduceMul, Nat.reduceLeDiff, if_true, if_false, if_pos, if_neg, repL2, Iss]
  have h16 : G.length ≤ 16 := by omega
  have hs' : ∀ x ∈ G, x.length ≤ 1000 := fun x hx => by have := hs x hx; omega
  cases a0 : loopOf 0 Try.f9 with
  | none => cases a0
  | some c0 =>
  cases a2 : loopOf 2 Try.f9 with
  | none => cases a2
  | some c2 =>
  cases b0 : loopOf 0 Try.f10 with
  | none => cases b0
  | some d0 =>
  cases b2 : loopOf 2 Try.f10 with
  | none => cases b2
  | some d2 =>
    have A0 := iter_all (S := fun i => s9v n G i) (q := fun i => validL (gt G i)) (n := G.length) (fun i hi hq => by have := r9v hn0 hn6 h16 hs' a0 hi; rw [if_pos hq] at this; exact this)
      (fun i hi hq => by have := r9v hn0 hn6 h16 hs' a0 hi; rw [if_neg (by rw [hq]; simp)] at this; exact this) (r9ve hn0 hn6 h16 hs' a0) (by simp) (by simp) G.length 0 (by omega)
    have A2 := iter_all (S := fun i => s9w n G i) (q := fun i => decide (((gt G i).length : Int) = n)) (n := G.length) (fun i hi hq => by have := r9w hn0 hn6 h16 hs' a2 hi; rw [if_pos hq] at this; exact this)
      (fun i hi hq => by have := r9w hn0 hn6 h16 hs' a2 hi; rw [if_neg (by rw [hq]; simp)] at this; exact this) (r9we hn0 hn6 h16 hs' a2) (by simp) (by simp) G.length 0 (by omega)
    have B0 := iter_all (S := fun i => s10v n G i) (q := fun i => validL (gt G i)) (n := G.length) (fun i hi hq => by have := r10v hn0 hn6 h16 hs' b0 hi; rw [if_pos hq] at this; exact this)
      (fun i hi hq => by have := r10v hn0 hn6 h16 hs' b0 hi; rw [if_neg (by rw [hq]; simp)] at this; exact this) (r10ve hn0 hn6 h16 hs' b0) (by simp) (by simp) G.length 0 (by omega)
    have B2 := iter_all (S := fun i => s10w n G i) (q := fun i => decide (((gt G i).length : Int) = n)) (n := G.length) (fun i hi hq => by have := r10w hn0 hn6 h16 hs' b2 hi; rw [if_pos hq] at this; exact this)
      (fun i hi hq => by have := r10w hn0 hn6 h16 hs' b2 hi; rw [if_neg (by rw [hq]; simp)] at this; exact this) (r10we hn0 hn6 h16 hs' b2) (by simp) (by simp) G.length 0 (by omega)
    cases hv : (List.range' 0 G.length).all fun i => validL (gt G i) with
    | false =>
      rw [hv, if_neg (by simp)] at A0 B0
      refine ⟨([], 1), call_step ?_, call_step ?_, by simp, by simp⟩
      · cases a0
        simp only [s9v, Iss, Int.natCast_zero] at A0
        simp -implicitDefEqProofs (maxSteps := 1000000) (disch := omega) only [stepA, bodyA, Try.f9, push_cast, ↓dstAt_zero, ↓dstAt_succ, ↓arun_skip, ↓arun_region, ↓arun_seq, ↓arun_cond, ↓arun_block, ↓arun_loop, ↓arun_exit, ↓arun_ret, aops_nil, aops_cons, aops_cons_guard, ↓putA_some, ↓putA_none, ↓aop_move, ↓aop_assign, ↓aop_pick, ↓aop_alloc, ↓aop_box, ↓aop_build, ↓aop_buildSlice, ↓aop_load, ↓aop_store, ↓aop_nilCheck, ↓aop_binOp, ↓aop_unOp, ↓aop_convert, ↓aop_makeSlice, ↓aop_fieldAddr, ↓aop_field, ↓aop_indexAddr, ↓aop_index, ↓aop_lookup, ↓aop_mapUpdate, ↓aop_insert, ↓aop_extract, ↓aop_callB, ↓aop_callF, ↓aop_callT, ↓aop_makeFunc, ↓aop_makeMap, ↓aop_slice, ↓aevs_nil, ↓aevs_cons, ↓evP_nil, ↓evP_cons, ↓aevO_none, ↓aevO_some, ↓reduceIte, reduceCtorEq, Nat.reduceEqDiff, Nat.reduceAdd, Nat.reduceLT, Nat.reduceSub, Nat.reduceMul, Nat.reduceLeDiff, if_true, if_false, if_pos, if_neg, repL2, Iss, A0]
      · cases b0
        simp only [s10v, Iss, Int.natCast_zero] at B0
        simp -implicitDefEqProofs (maxSteps := 1000000) (disch := omega) only [stepA, bodyA, Try.f10, push_cast, ↓dstAt_zero, ↓dstAt_succ, ↓arun_skip, ↓arun_region, ↓arun_seq, ↓arun_cond, ↓arun_block, ↓arun_loop, ↓arun_exit, ↓arun_ret, aops_nil, aops_cons, aops_cons_guard, ↓putA_some, ↓putA_none, ↓aop_move, ↓aop_assign, ↓aop_pick, ↓aop_alloc, ↓aop_box, ↓aop_build, ↓aop_buildSlice, ↓aop_load, ↓aop_store, ↓aop_nilCheck, ↓aop_binOp, ↓aop_unOp, ↓aop_convert, ↓aop_makeSlice, ↓aop_fieldAddr, ↓aop_field, ↓aop_indexAddr, ↓aop_index, ↓aop_lookup, ↓aop_mapUpdate, ↓aop_insert, ↓aop_extract, ↓aop_callB, ↓aop_callF, ↓aop_callT, ↓aop_makeFunc, ↓aop_makeMap, ↓aop_slice, ↓aevs_nil, ↓aevs_cons, ↓evP_nil, ↓evP_cons, ↓aevO_none, ↓aevO_some, ↓reduceIte, reduceCtorEq, Nat.reduceEqDiff, Nat.reduceAdd, Nat.reduceLT, Nat.reduceSub, Nat.reduceMul, Nat.reduceLeDiff, if_true, if_false, if_pos, if_neg, repL2, Iss, B0]
    | true =>
      rw [hv, if_pos rfl] at A0 B0
      cases hl : (List.range' 0 G.length).all fun i => decide (((gt G i).length : Int) = n) with
      | false =>
        rw [hl, if_neg (by simp)] at A2 B2
        refine ⟨([], 4), call_step ?_, call_step ?_, by simp, by simp⟩
        · cases a0; cases a2
          simp only [s9v, s9w, Iss, Int.natCast_zero] at A0 A2
          simp -implicitDefEqProofs (maxSteps := 1000000) (disch := omega) only [stepA, bodyA, Try.f9, push_cast, ↓dstAt_zero, ↓dstAt_succ, ↓arun_skip, ↓arun_region, ↓arun_seq, ↓arun_cond, ↓arun_block, ↓arun_loop, ↓arun_exit, ↓arun_ret, aops_nil, aops_cons, aops_cons_guard, ↓putA_some, ↓putA_none, ↓aop_move, ↓aop_assign, ↓aop_pick, ↓aop_alloc, ↓aop_box, ↓aop_build, ↓aop_buildSlice, ↓aop_load, ↓aop_store, ↓aop_nilCheck, ↓aop_binOp, ↓aop_unOp, ↓aop_convert, ↓aop_makeSlice, ↓aop_fieldAddr, ↓aop_field, ↓aop_indexAddr, ↓aop_index, ↓aop_lookup, ↓aop_mapUpdate, ↓aop_insert, ↓aop_extract, ↓aop_callB, ↓aop_callF, ↓aop_callT, ↓aop_makeFunc, ↓aop_makeMap, ↓aop_slice, ↓aevs_nil, ↓aevs_cons, ↓evP_nil, ↓evP_cons, ↓aevO_none, ↓aevO_some, ↓reduceIte, reduceCtorEq, Nat.reduceEqDiff, Nat.reduceAdd, Nat.reduceLT, Nat.reduceSub, Nat.reduceMul, Nat.reduceLeDiff, if_true, if_false, if_pos, if_neg, repL2, Iss, A0, A2]
        · cases b0; cases b2
          simp only [s10v, s10w, Iss, Int.natCast_zero] at B0 B2
          simp -implicitDefEqProofs (maxSteps := 1000000) (disch := omega) only [stepA, bodyA, Try.f10, push_cast, ↓dstAt_zero, ↓dstAt_succ, ↓arun_skip, ↓arun_region, ↓arun_seq, ↓arun_cond, ↓arun_block, ↓arun_loop, ↓arun_exit, ↓arun_ret, aops_nil, aops_cons, aops_cons_guard, ↓putA_some, ↓putA_none, ↓aop_move, ↓aop_assign, ↓aop_pick, ↓aop_alloc, ↓aop_box, ↓aop_build, ↓aop_buildSlice, ↓aop_load, ↓aop_store, ↓aop_nilCheck, ↓aop_binOp, ↓aop_unOp, ↓aop_convert, ↓aop_makeSlice, ↓aop_fieldAddr, ↓aop_field, ↓aop_indexAddr, ↓aop_index, ↓aop_lookup, ↓aop_mapUpdate, ↓aop_insert, ↓aop_extract, ↓aop_callB, ↓aop_callF, ↓aop_callT, ↓aop_makeFunc, ↓aop_makeMap, ↓aop_slice, ↓aevs_nil, ↓aevs_cons, ↓evP_nil, ↓evP_cons, ↓aevO_none, ↓aevO_some, ↓reduceIte, reduceCtorEq, Nat.reduceEqDiff, Nat.reduceAdd, Nat.reduceLT, Nat.reduceSub, Nat.reduceMul, Nat.reduceLeDiff, if_true, if_false, if_pos, if_neg, repL2, Iss, B0, B2]
      | true =>
        rw [hl, if_pos rfl] at A2 B2
        obtain ⟨m, rfl⟩ : ∃ m : Nat, n = m := ⟨n.toNat, by omega⟩
        have hG : ∀ g ∈ G, PermN m g := fun g hg => ⟨all_gt (q := validL) hv g hg, by
          have := of_decide_eq_true (all_gt (q := fun x => decide ((x.length : Int) = m)) hl g hg)
          omega⟩
        obtain ⟨L, g1, g2, g3, g4⟩ := main9 (m := m) (by omega) h16 hG
        refine ⟨(L, 0), call_step ?_, call_step ?_, g2, g3⟩
        · cases a4 : loopOf 4 Try.f9 with
          | none => cases a4
          | some c4 =>
            obtain ⟨O, v, X, f1, f2⟩ := g4 c4 a4
            have h31 := call31u (n := m) (by omega)
            have hil := idP_length m
            have h32 := call32 (A := idP m) (by omega)
            have ho := keyOk_key (A := idP m) (by omega)
            have e1 : List.take L.length (List.map Is L) = List.map Is L := List.take_of_length_le (by simp)
            rw [hil] at h32
            cases a0; cases a2; cases a4
            simp only [s9v, s9w, Iss, Int.natCast_zero] at A0 A2
            simp only [s9, Iss, hp9, List.length_cons, List.length_nil, List.map_cons, List.map_nil, Is, hil, Nat.zero_add, mk6, Int.natCast_zero] at f1
            simp only [hp9] at f2
            simp -implicitDefEqProofs (maxSteps := 1000000) (disch := omega) only [stepA, bodyA, Try.f9, push_cast, ↓dstAt_zero, ↓dstAt_succ, ↓arun_skip, ↓arun_region, ↓arun_seq, ↓arun_cond, ↓arun_block, ↓arun_loop, ↓arun_exit, ↓arun_ret, aops_nil, aops_cons, aops_cons_guard, ↓putA_some, ↓putA_none, ↓aop_move, ↓aop_assign, ↓aop_pick, ↓aop_alloc, ↓aop_box, ↓aop_build, ↓aop_buildSlice, ↓aop_load, ↓aop_store, ↓aop_nilCheck, ↓aop_binOp, ↓aop_unOp, ↓aop_convert, ↓aop_makeSlice, ↓aop_fieldAddr, ↓aop_field, ↓aop_indexAddr, ↓aop_index, ↓aop_lookup, ↓aop_mapUpdate, ↓aop_insert, ↓aop_extract, ↓aop_callB, ↓aop_callF, ↓aop_callT, ↓aop_makeFunc, ↓aop_makeMap, ↓aop_slice, ↓aevs_nil, ↓aevs_cons, ↓evP_nil, ↓evP_cons, ↓aevO_none, ↓aevO_some, ↓reduceIte, reduceCtorEq, Nat.reduceEqDiff, Nat.reduceAdd, Nat.reduceLT, Nat.reduceSub, Nat.reduceMul, Nat.reduceLeDiff, if_true, if_false, if_pos, if_neg, repL2, Iss, A0, A2, h31, h32, mapNewA, mapUpdateA, updA, ho, f1, f2, e1, repl_one, List.replicate_one]
        · cases b0; cases b2
          simp only [s10v, s10w, Iss, Int.natCast_zero] at B0 B2
          simp -implicitDefEqProofs (maxSteps := 1000000) (disch := omega) only [stepA, bodyA, Try.f10, push_cast, ↓dstAt_zero, ↓dstAt_succ, ↓arun_skip, ↓arun_region, ↓arun_seq, ↓arun_cond, ↓arun_block, ↓arun_loop, ↓arun_exit, ↓arun_ret, aops_nil, aops_cons, aops_cons_guard, ↓putA_some, ↓putA_none, ↓aop_move, ↓aop_assign, ↓aop_pick, ↓aop_alloc, ↓aop_box, ↓aop_build, ↓aop_buildSlice, ↓aop_load, ↓aop_store, ↓aop_nilCheck, ↓aop_binOp, ↓aop_unOp, ↓aop_convert, ↓aop_makeSlice, ↓aop_fieldAddr, ↓aop_field, ↓aop_indexAddr, ↓aop_index, ↓aop_lookup, ↓aop_mapUpdate, ↓aop_insert, ↓aop_extract, ↓aop_callB, ↓aop_callF, ↓aop_callT, ↓aop_makeFunc, ↓aop_makeMap, ↓aop_slice, ↓aevs_nil, ↓aevs_cons, ↓evP_nil, ↓evP_cons, ↓aevO_none, ↓aevO_some, ↓reduceIte, reduceCtorEq, Nat.reduceEqDiff, Nat.reduceAdd, Nat.reduceLT, Nat.reduceSub, Nat.reduceMul, Nat.reduceLeDiff, if_true, if_false, if_pos, if_neg, repL2, Iss, B0, B2, g1]
          try rfl
end
end Go.Proofs

/- GroupPermutations: the function answers true. -/
set_option linter.unusedVariables false
set_option linter.unusedSimpArgs false
set_option linter.unusedSectionVars false
namespace Go.Proofs
open Go.AI
set_option maxRecDepth 20000
set_option maxHeartbeats 4000000
theorem call8 : call Try.cfg 8 [] [] = some (.v (.bool true), []) := call_run 20 (by kernel_rfl)
theorem permS_le {A : List Int} {n : Nat} (h : n ≤ 6) : (permS A n).length ≤ 1000 := by rw [permS_length]; omega
theorem compL_len (X Y : List Int) : (compL X Y).1.length ≤ X.length := by
  unfold compL
  split
  · split
    · simp [mulP]
    · simp
  · simp
theorem invL_len (X : List Int) : (invL X).1.length ≤ X.length := by
  unfold invL
  split
  · simp [invS_length]
  · simp
theorem cyc_mem_len (A : List Int) : ∀ i, ∀ x ∈ (cycAll A i).1, x.length ≤ 7
  | 0, x, hx => by simp [cycAll] at hx
  | i + 1, x, hx => by
    simp only [cycAll, cycStep] at hx
    split at hx
    · exact cyc_mem_len A i x hx
    · simp only [List.mem_append, List.mem_singleton] at hx
      rcases hx with hx | rfl
      · exact cyc_mem_len A i x hx
      · have := cyc_len2 A 7 (cycAll A i).2 [] i; simpa using this
theorem cycL_len (X : List Int) : (cycL X).1.length ≤ 6 ∧ ∀ x ∈ (cycL X).1, x.length ≤ 7 := by
  unfold cycL
  split
  · rename_i h
    have h6 := valid_len h
    exact ⟨Nat.le_trans (cycAll_len X X.length).2 h6, cyc_mem_len X _⟩
  · simp
theorem lists_self {A : List (List Int)} (hA : A.length ≤ 1000000) (hs : ∀ x ∈ A, x.length ≤ 1000000) : call Try.cfg 13 [.sl false A.length (A.map Is), .sl false A.length (A.map Is)] [] = some (.v (.bool true), []) := by
  have := call13 hA hA hs hs
  simpa using this
theorem ints_self {A : List Int} (hA : A.length ≤ 1000000) : call Try.cfg 20 [.sl false A.length (A.map I), .sl false A.length (A.map I)] [] = some (.v (.bool true), []) := by
  have := call20 hA hA
  simpa [Is] using this
section
variable {A C : List Int} {n : Int} {raw : Bool} (hA : A.length ≤ maxLen) (hC : C.length ≤ maxLen) (hrA : ∀ x ∈ A, i64 x) (hrC : ∀ x ∈ C, i64 x) (hn : i64 n)
include hA hC hrA hrC hn
theorem call5 : call Try.cfg 5 [Is A, Is C, I n, B raw] [] = some (.v (.bool true), []) := by
  refine call_step ?_
  have h14 := call14 (L := [A, C]) (by simp)
  have h8 := call8
  simp only [List.map_cons, List.map_nil, List.length_cons, List.length_nil, Is, Nat.zero_add] at h14
  by_cases hf : fewL [A, C] = true
  · rw [hf] at h14
    have hl : A.length ≤ 20 ∧ C.length ≤ 20 := by
      have e : fewL [A, C] = (decide (A.length ≤ 20) && (decide (C.length ≤ 20) && true)) := rfl
      rw [e] at hf
      simpa using hf
    have main : ∀ X Y : List Int, X.length ≤ 1000 → Y.length ≤ 1000 →
        call Try.cfg 17 [.sl false X.length (X.map I), .sl false Y.length (Y.map I)] [] = some (rep2 (compL X Y), []) ∧ call Try.cfg 21 [.sl false X.length (X.map I), .sl false Y.length (Y.map I)] [] = some (rep2 (compL X Y), []) ∧
        call Try.cfg 18 [.sl false X.length (X.map I)] [] = some (rep2 (invL X), []) ∧ call Try.cfg 22 [.sl false X.length (X.map I)] [] = some (rep2 (invL X), []) ∧
        call Try.cfg 23 [.sl false X.length (X.map I)] [] = some (.v (.bool (validL X)), []) ∧ call Try.cfg 24 [.sl false X.length (X.map I)] [] = some (.v (.bool (validL X)), []) ∧
        call Try.cfg 19 [.sl false X.length (X.map I)] [] = some (.tu [.v (.int .i64 (ordL X).1), .v (.int .i64 (ordL X).2)], []) ∧ call Try.cfg 25 [.sl false X.length (X.map I)] [] = some (.tu [.v (.int .i64 (ordL X).1), .v (.int .i64 (ordL X).2)], []) ∧
        call Try.cfg 26 [.sl false X.length (X.map I)] [] = some (repL2 (cycL X), []) ∧ call Try.cfg 27 [.sl false X.length (X.map I)] [] = some (repL2 (cycL X), []) := fun X Y hX hY =>
      ⟨call17 hX hY, call21 hX hY, call18 hX, call22 hX, call23 X hX, call24 X hX, call19 hX, call25 hX, call26 hX, call27 hX⟩
    have fin : ∀ X Y : List Int, X.length ≤ 1000 → Y.length ≤ 1000 → (raw = true → X = A ∧ Y = C) → (raw = false → call Try.cfg 15 [.v (.int .i64 n), .v (.int .i64 7)] [] = some (.v (.int .i64 (n % 7)), []) ∧ call Try.cfg 16 [.sl false A.length (A.map I), .v (.int .i64 (n % 7))] [] = some (.sl false X.length (X.map I), []) ∧ call Try.cfg 16 [.sl false C.length (C.map I), .v (.int .i64 (n % 7))] [] = some (.sl false Y.length (Y.map I), [])) →
        stepA Try.cfg iter (call Try.cfg) 5 [Is A, Is C, I n, B raw] [] = some (.v (.bool true), []) := by
      intro X Y hX hY hr1 hr2
      obtain ⟨m1, m2, m3, m4, m5, m6, m7, m8, m9, m10⟩ := main X Y hX hY
      have l1 := compL_len X Y
      have l2 := invL_len X
      have l3 := cycL_len X
      generalize compL X Y = cp at *
      generalize invL X = iv at *
      generalize ordL X = od at *
      generalize cycL X = cy at *
      generalize validL X = va at *
      obtain ⟨cp1, cp2⟩ := cp
      obtain ⟨iv1, iv2⟩ := iv
      obtain ⟨od1, od2⟩ := od
      obtain ⟨cy1, cy2⟩ := cy
      have i1 := ints_self (A := cp1) (by simp at l1; omega)
      have i2 := ints_self (A := iv1) (by simp at l2; omega)
      have i3 := lists_self (A := cy1) (by have := l3.1; simp at this; omega) (fun x hx => by have := l3.2 x hx; omega)
      simp only [rep2, repL2, Is, Iss] at m1 m2 m3 m4 m7 m8 m9 m10
      cases raw with
      | true =>
        obtain ⟨rfl, rfl⟩ := hr1 rfl
        simp -implicitDefEqProofs (maxSteps := 1000000) (disch := omega) only [stepA, bodyA, Try.cfgO, Try.sh5, Try.sh14, Try.sh8, Try.sh17, Try.sh21, Try.sh18, Try.sh22, Try.sh23, Try.sh24, Try.sh20, Try.sh19, Try.sh25, Try.sh26, Try.sh27, Try.sh13, Try.func5, Try.f5, push_cast, ↓dstAt_zero, ↓dstAt_succ, ↓arun_skip, ↓arun_region, ↓arun_seq, ↓arun_cond, ↓arun_block, ↓arun_loop, ↓arun_exit, ↓arun_ret, aops_nil, aops_cons, aops_cons_guard, ↓putA_some, ↓putA_none, ↓aop_move, ↓aop_assign, ↓aop_pick, ↓aop_alloc, ↓aop_box, ↓aop_build, ↓aop_buildSlice, ↓aop_load, ↓aop_store, ↓aop_nilCheck, ↓aop_binOp, ↓aop_unOp, ↓aop_convert, ↓aop_makeSlice, ↓aop_fieldAddr, ↓aop_field, ↓aop_indexAddr, ↓aop_index, ↓aop_lookup, ↓aop_mapUpdate, ↓aop_insert, ↓aop_extract, ↓aop_callB, ↓aop_callF, ↓aop_callT, ↓aop_makeFunc, ↓aop_makeMap, ↓aop_slice, ↓aevs_nil, ↓aevs_cons, ↓evP_nil, ↓evP_cons, ↓aevO_none, ↓aevO_some, ↓reduceIte, reduceCtorEq, Nat.reduceEqDiff, Nat.reduceAdd, Nat.reduceLT, Nat.reduceSub, Nat.reduceMul, Nat.reduceLeDiff, if_true, if_false, if_pos, if_neg, h14, h8, m1, m2, m3, m4, m5, m6, m7, m8, m9, m10, i1, i2, i3, beq_self_eq_true, ne_eq, not_true_eq_false]
      | false =>
        obtain ⟨e1, e2, e3⟩ := hr2 rfl
        simp -implicitDefEqProofs (maxSteps := 1000000) (disch := omega) only [stepA, bodyA, Try.cfgO, Try.sh5, Try.sh14, Try.sh8, Try.sh15, Try.sh16, Try.sh17, Try.sh21, Try.sh18, Try.sh22, Try.sh23, Try.sh24, Try.sh20, Try.sh19, Try.sh25, Try.sh26, Try.sh27, Try.sh13, Try.func5, Try.f5, push_cast, ↓dstAt_zero, ↓dstAt_succ, ↓arun_skip, ↓arun_region, ↓arun_seq, ↓arun_cond, ↓arun_block, ↓arun_loop, ↓arun_exit, ↓arun_ret, aops_nil, aops_cons, aops_cons_guard, ↓putA_some, ↓putA_none, ↓aop_move, ↓aop_assign, ↓aop_pick, ↓aop_alloc, ↓aop_box, ↓aop_build, ↓aop_buildSlice, ↓aop_load, ↓aop_store, ↓aop_nilCheck, ↓aop_binOp, ↓aop_unOp, ↓aop_convert, ↓aop_makeSlice, ↓aop_fieldAddr, ↓aop_field, ↓aop_indexAddr, ↓aop_index, ↓aop_lookup, ↓aop_mapUpdate, ↓aop_insert, ↓aop_extract, ↓aop_callB, ↓aop_callF, ↓aop_callT, ↓aop_makeFunc, ↓aop_makeMap, ↓aop_slice, ↓aevs_nil, ↓aevs_cons, ↓evP_nil, ↓evP_cons, ↓aevO_none, ↓aevO_some, ↓reduceIte, reduceCtorEq, Nat.reduceEqDiff, Nat.reduceAdd, Nat.reduceLT, Nat.reduceSub, Nat.reduceMul, Nat.reduceLeDiff, if_true, if_false, if_pos, if_neg, h14, h8, e1, e2, e3, m1, m2, m3, m4, m5, m6, m7, m8, m9, m10, i1, i2, i3, beq_self_eq_true, ne_eq, not_true_eq_false]
    cases raw with
    | true => exact fin A C (by omega) (by omega) (fun _ => ⟨rfl, rfl⟩) (by simp)
    | false =>
      have hm1 := Int.emod_nonneg n (show (7 : Int) ≠ 0 by omega)
      have hm2 := Int.emod_lt_of_pos n (show (0 : Int) < 7 by omega)
      obtain ⟨m, hm⟩ : ∃ m : Nat, n % 7 = m := ⟨(n % 7).toNat, by omega⟩
      refine fin (permS A m) (permS C m) (permS_le (by omega)) (permS_le (by omega)) (by simp) (fun _ => ⟨call15u (by omega) (by omega) hn.1 hn.2, ?_, ?_⟩)
      · rw [hm]; exact call16 (by omega) (by omega) hrA
      · rw [hm]; exact call16 (by omega) (by omega) hrC
  · have hf' : fewL [A, C] = false := by simpa using hf
    rw [hf'] at h14
    simp -implicitDefEqProofs (maxSteps := 1000000) (disch := omega) only [stepA, bodyA, Try.cfgO, Try.sh5, Try.sh14, Try.sh8, Try.func5, Try.f5, push_cast, ↓dstAt_zero, ↓dstAt_succ, ↓arun_skip, ↓arun_region, ↓arun_seq, ↓arun_cond, ↓arun_block, ↓arun_loop, ↓arun_exit, ↓arun_ret, aops_nil, aops_cons, aops_cons_guard, ↓putA_some, ↓putA_none, ↓aop_move, ↓aop_assign, ↓aop_pick, ↓aop_alloc, ↓aop_box, ↓aop_build, ↓aop_buildSlice, ↓aop_load, ↓aop_store, ↓aop_nilCheck, ↓aop_binOp, ↓aop_unOp, ↓aop_convert, ↓aop_makeSlice, ↓aop_fieldAddr, ↓aop_field, ↓aop_indexAddr, ↓aop_index, ↓aop_lookup, ↓aop_mapUpdate, ↓aop_insert, ↓aop_extract, ↓aop_callB, ↓aop_callF, ↓aop_callT, ↓aop_makeFunc, ↓aop_makeMap, ↓aop_slice, ↓aevs_nil, ↓aevs_cons, ↓evP_nil, ↓evP_cons, ↓aevO_none, ↓aevO_some, ↓reduceIte, reduceCtorEq, Nat.reduceEqDiff, Nat.reduceAdd, Nat.reduceLT, Nat.reduceSub, Nat.reduceMul, Nat.reduceLeDiff, if_true, if_false, if_pos, if_neg, h14, h8]
end
end Go.Proofs

/- GroupGenerate: the function answers true. -/
set_option linter.unusedVariables false
set_option linter.unusedSimpArgs false
set_option linter.unusedSectionVars false
namespace Go.Proofs
open Go.AI
set_option maxRecDepth 20000
set_option maxHeartbeats 4000000
theorem tnLit2 : Int.toNat 2 = 2 := rfl
section
variable {n : Int} {L : List (List Int)} (hn : i64 n) (hL : L.length ≤ maxLen) (hs : ∀ x ∈ L, x.length ≤ maxLen)
include hn hL hs
theorem call3 : call Try.cfg 3 [.v (.int .i64 n), .sl false L.length (L.map Is)] [] = some (.v (.bool true), []) := by
  refine call_step ?_
  have h7 : call Try.cfg 7 [.sl false L.length (L.map Is), .v (.int .i64 20), .v (.int .i64 8)] [] = some (.v (.bool (smallL L 20 8)), []) := call7 (L := L) (k := 20) (m := 8) (by unfold maxLen at hL; omega) (fun x hx => by have := hs x hx; unfold maxLen at this; omega) (by omega) (by omega)
  have h8 := call8
  cases hsm : smallL L 20 8 with
  | false =>
    rw [hsm] at h7
    simp -implicitDefEqProofs (maxSteps := 1000000) (disch := omega) only [stepA, bodyA, Try.f3, push_cast, ↓dstAt_zero, ↓dstAt_succ, ↓arun_skip, ↓arun_region, ↓arun_seq, ↓arun_cond, ↓arun_block, ↓arun_loop, ↓arun_exit, ↓arun_ret, aops_nil, aops_cons, aops_cons_guard, ↓putA_some, ↓putA_none, ↓aop_move, ↓aop_assign, ↓aop_pick, ↓aop_alloc, ↓aop_box, ↓aop_build, ↓aop_buildSlice, ↓aop_load, ↓aop_store, ↓aop_nilCheck, ↓aop_binOp, ↓aop_unOp, ↓aop_convert, ↓aop_makeSlice, ↓aop_fieldAddr, ↓aop_field, ↓aop_indexAddr, ↓aop_index, ↓aop_lookup, ↓aop_mapUpdate, ↓aop_insert, ↓aop_extract, ↓aop_callB, ↓aop_callF, ↓aop_callT, ↓aop_makeFunc, ↓aop_makeMap, ↓aop_slice, ↓aevs_nil, ↓aevs_cons, ↓evP_nil, ↓evP_cons, ↓aevO_none, ↓aevO_some, ↓reduceIte, reduceCtorEq, Nat.reduceEqDiff, Nat.reduceAdd, Nat.reduceLT, Nat.reduceSub, Nat.reduceMul, Nat.reduceLeDiff, if_true, if_false, if_pos, if_neg, h7, h8]
  | true =>
    rw [hsm] at h7
    obtain ⟨h20, hs8⟩ := smallL_iff.1 hsm
    clear hsm hL hs
    have main : ∀ M : List (List Int), M.length ≤ 20 → (∀ x ∈ M, x.length ≤ 8) → ∃ (r1 : List (List Int)) (r2 : Int), call Try.cfg 9 [.v (.int .i64 n), .sl false M.length (M.map Is)] [] = some (.tu [.sl false r1.length (r1.map Is), .v (.int .i64 r2)], []) ∧ call Try.cfg 10 [.v (.int .i64 n), .sl false M.length (M.map Is)] [] = some (.tu [.sl false r1.length (r1.map Is), .v (.int .i64 r2)], []) ∧
        call Try.cfg 13 [.sl false r1.length (r1.map Is), .sl false r1.length (r1.map Is)] [] = some (.v (.bool true), []) ∧ call Try.cfg 11 [.sl false M.length (M.map Is)] [] = some (.v (.bool (isG M)), []) ∧ call Try.cfg 12 [.sl false M.length (M.map Is)] [] = some (.v (.bool (isG M)), []) := by
      intro M hM hM8
      obtain ⟨⟨r1, r2⟩, g1, g2, g3, g4⟩ := gen_both hn hM hM8
      exact ⟨r1, r2, g1, g2, lists_self (by simp only at g3; omega) (fun x hx => by have := g4 x hx; omega), call11 (by omega) (fun x hx => by have := hM8 x hx; omega), call12 (by omega) (fun x hx => by have := hM8 x hx; omega)⟩
    by_cases hc : 4 < n ∧ n ≤ 6 ∧ 2 < L.length
    · obtain ⟨r1, r2, m1, m2, m3, m4, m5⟩ := main (L.take 2) (by simp; omega) (fun x hx => hs8 x (List.mem_of_mem_take hx))
      obtain ⟨c1, c2, c3⟩ := hc
      have e1 : (L.take 2).length = 2 := by simp; omega
      have e2 : (L.map Is).take 2 = (L.take 2).map Is := (List.map_take ..).symm
      rw [e1] at m1 m2 m4 m5
      generalize L.take 2 = M at *
      generalize isG M = z at *
      simp -implicitDefEqProofs (maxSteps := 1000000) (disch := omega) only [stepA, bodyA, Try.f3, push_cast, ↓dstAt_zero, ↓dstAt_succ, ↓arun_skip, ↓arun_region, ↓arun_seq, ↓arun_cond, ↓arun_block, ↓arun_loop, ↓arun_exit, ↓arun_ret, aops_nil, aops_cons, aops_cons_guard, ↓putA_some, ↓putA_none, ↓aop_move, ↓aop_assign, ↓aop_pick, ↓aop_alloc, ↓aop_box, ↓aop_build, ↓aop_buildSlice, ↓aop_load, ↓aop_store, ↓aop_nilCheck, ↓aop_binOp, ↓aop_unOp, ↓aop_convert, ↓aop_makeSlice, ↓aop_fieldAddr, ↓aop_field, ↓aop_indexAddr, ↓aop_index, ↓aop_lookup, ↓aop_mapUpdate, ↓aop_insert, ↓aop_extract, ↓aop_callB, ↓aop_callF, ↓aop_callT, ↓aop_makeFunc, ↓aop_makeMap, ↓aop_slice, ↓aevs_nil, ↓aevs_cons, ↓evP_nil, ↓evP_cons, ↓aevO_none, ↓aevO_some, ↓reduceIte, reduceCtorEq, Nat.reduceEqDiff, Nat.reduceAdd, Nat.reduceLT, Nat.reduceSub, Nat.reduceMul, Nat.reduceLeDiff, if_true, if_false, if_pos, if_neg, h7, h8, tnLit2, e2, m1, m2, m3, m4, m5, beq_self_eq_true]
    · obtain ⟨r1, r2, m1, m2, m3, m4, m5⟩ := main L h20 hs8
      generalize isG L = z at *
      by_cases c1 : 4 < n
      · by_cases c2 : n ≤ 6
        · have c3 : ¬ 2 < L.length := fun h => hc ⟨c1, c2, h⟩
          simp -implicitDefEqProofs (maxSteps := 1000000) (disch := omega) only [stepA, bodyA, Try.f3, push_cast, ↓dstAt_zero, ↓dstAt_succ, ↓arun_skip, ↓arun_region, ↓arun_seq, ↓arun_cond, ↓arun_block, ↓arun_loop, ↓arun_exit, ↓arun_ret, aops_nil, aops_cons, aops_cons_guard, ↓putA_some, ↓putA_none, ↓aop_move, ↓aop_assign, ↓aop_pick, ↓aop_alloc, ↓aop_box, ↓aop_build, ↓aop_buildSlice, ↓aop_load, ↓aop_store, ↓aop_nilCheck, ↓aop_binOp, ↓aop_unOp, ↓aop_convert, ↓aop_makeSlice, ↓aop_fieldAddr, ↓aop_field, ↓aop_indexAddr, ↓aop_index, ↓aop_lookup, ↓aop_mapUpdate, ↓aop_insert, ↓aop_extract, ↓aop_callB, ↓aop_callF, ↓aop_callT, ↓aop_makeFunc, ↓aop_makeMap, ↓aop_slice, ↓aevs_nil, ↓aevs_cons, ↓evP_nil, ↓evP_cons, ↓aevO_none, ↓aevO_some, ↓reduceIte, reduceCtorEq, Nat.reduceEqDiff, Nat.reduceAdd, Nat.reduceLT, Nat.reduceSub, Nat.reduceMul, Nat.reduceLeDiff, if_true, if_false, if_pos, if_neg, h7, h8, m1, m2, m3, m4, m5, beq_self_eq_true]
        · simp -implicitDefEqProofs (maxSteps := 1000000) (disch := omega) only [stepA, bodyA, Try.f3, push_cast, ↓dstAt_zero, ↓dstAt_succ, ↓arun_skip, ↓arun_region, ↓arun_seq, ↓arun_cond, ↓arun_block, ↓arun_loop, ↓arun_exit, ↓arun_ret, aops_nil, aops_cons, aops_cons_guard, ↓putA_some, ↓putA_none, ↓aop_move, ↓aop_assign, ↓aop_pick, ↓aop_alloc, ↓aop_box, ↓aop_build, ↓aop_buildSlice, ↓aop_load, ↓aop_store, ↓aop_nilCheck, ↓aop_binOp, ↓aop_unOp, ↓aop_convert, ↓aop_makeSlice, ↓aop_fieldAddr, ↓aop_field, ↓aop_indexAddr, ↓aop_index, ↓aop_lookup, ↓aop_mapUpdate, ↓aop_insert, ↓aop_extract, ↓aop_callB, ↓aop_callF, ↓aop_callT, ↓aop_makeFunc, ↓aop_makeMap, ↓aop_slice, ↓aevs_nil, ↓aevs_cons, ↓evP_nil, ↓evP_cons, ↓aevO_none, ↓aevO_some, ↓reduceIte, reduceCtorEq, Nat.reduceEqDiff, Nat.reduceAdd, Nat.reduceLT, Nat.reduceSub, Nat.reduceMul, Nat.reduceLeDiff, if_true, if_false, if_pos, if_neg, h7, h8, m1, m2, m3, m4, m5, beq_self_eq_true]
      · simp -implicitDefEqProofs (maxSteps := 1000000) (disch := omega) only [stepA, bodyA, Try.f3, push_cast, ↓dstAt_zero, ↓dstAt_succ, ↓arun_skip, ↓arun_region, ↓arun_seq, ↓arun_cond, ↓arun_block, ↓arun_loop, ↓arun_exit, ↓arun_ret, aops_nil, aops_cons, aops_cons_guard, ↓putA_some, ↓putA_none, ↓aop_move, ↓aop_assign, ↓aop_pick, ↓aop_alloc, ↓aop_box, ↓aop_build, ↓aop_buildSlice, ↓aop_load, ↓aop_store, ↓aop_nilCheck, ↓aop_binOp, ↓aop_unOp, ↓aop_convert, ↓aop_makeSlice, ↓aop_fieldAddr, ↓aop_field, ↓aop_indexAddr, ↓aop_index, ↓aop_lookup, ↓aop_mapUpdate, ↓aop_insert, ↓aop_extract, ↓aop_callB, ↓aop_callF, ↓aop_callT, ↓aop_makeFunc, ↓aop_makeMap, ↓aop_slice, ↓aevs_nil, ↓aevs_cons, ↓evP_nil, ↓evP_cons, ↓aevO_none, ↓aevO_some, ↓reduceIte, reduceCtorEq, Nat.reduceEqDiff, Nat.reduceAdd, Nat.reduceLT, Nat.reduceSub, Nat.reduceMul, Nat.reduceLeDiff, if_true, if_false, if_pos, if_neg, h7, h8, m1, m2, m3, m4, m5, beq_self_eq_true]
end
end Go.Proofs

/- GroupGenerate answers true whatever the input, and each argument reads behind the call as it read before. No conditions. -/
set_option linter.unusedVariables false
namespace Go.Proofs.Ytdodfimekcoclaa
open Go.ChangeShapes Go.WideShapes Go.ChangeAt Go.RowKit Go.AI
theorem own3 : ownKnob Try.prog.godebug = none := by kernel_rfl
theorem laidOut3 : laidOutB Try.prog = true := by kernel_rfl
set_option maxRecDepth 100000 in
theorem generate_lifted (os : Os) (started : os.Started) (H : Type) (enc : TypeId × Value → H) :
    ReturnsInHanded {} Try.checked os 3 .any (Rows.groupGenerateSpec.pre6 enc Try.prog Try.f3 Rows.groupGenerateRow.domain false) (Rows.groupGenerateSpec.post enc Try.prog Try.f3 false true false false) := by
  refine returnsInHanded_of_change (C := Try.checked) own3 started (by kernel_rfl) Try.func3
    (ChangeSpec.witness6 (enc := enc) (C := Try.checked) false ⟨#[], #[.int .i64 0, .slice none 0 0], []⟩ 8 (by kernel_rfl) (by kernel_rfl) (by kernel_rfl) (by kernel_rfl)) ?_
  intro W base args ds gs before hval0 hW hcnd _
  have hval : ∀ (j : Nat) t v, Try.f3.params[j]? = some t → args[j]? = some v → Value.okWide Try.prog W .any base t v := hval0
  have hW' := hW
  obtain ⟨p, q, hA0, hV, rfl, hfz, hnd⟩ := hW
  have hA : DataW.TrodAll enc Try.prog W 0 (fun _ => true) true Try.f3.params.toList args.toList ds p := hA0
  rw [Try.params3] at hA hval
  obtain ⟨v0, v1, d0, d1, p0, p1, rfl, rfl, rfl, h0, h1⟩ := trodAll_two hA
  obtain ⟨rfl, rfl⟩ := trodVars_none hV
  obtain ⟨n, wn, vn⟩ := arg_int Try.underlying3 (hval 0 3 v0 rfl rfl) h0
  have r1 := arg_slice Try.underlying22 (hval 1 22 v1 rfl rfl) h1
  obtain ⟨L, hQ, hl, vl, _⟩ := rd_slice (en := Is) (Q := fun x => x.length ≤ maxLen) (fun _ => rfl) Try.underlying22 Try.cells31 (fun u hu => by
    obtain ⟨x, ⟨_, g1⟩, g2, g3⟩ := rd_ints Try.underlying31 Try.cells3 Try.underlying3 hu
    exact ⟨x, g1, g2, g3⟩) r1
  refine (true_sound Try.fit (call3 (n := n) (L := L) wn hl hQ) (cargs := [v0, v1]) (.cons vn (.cons vl .nil))).mono fun e W' ⟨he, hE⟩ => ?_
  exact ⟨_, he, law_post laidOut3 hW' rfl rfl rfl rfl rfl Try.underlying4 (of_decide_eq_true (by kernel_rfl)) hE⟩
theorem groupGenerate_holds : Rows.GroupGenerateSaid :=
  OpenClaim.holds_of_wide 3 Try.f3 rfl rfl rfl rfl rfl rfl rfl ⟨rfl, rfl, rfl, rfl, rfl⟩ rfl rfl rfl rfl rfl (by kernel_rfl) Try.func3 (by kernel_rfl)
    (of_decide_eq_true (by kernel_rfl)) (by unfold Func.isWrapper; first | (rw [if_pos (by decide +kernel)]; kernel_rfl) | (rw [if_neg (by decide +kernel)]; exact ⟨rfl, rfl⟩))
    (fun os started H enc _ => generate_lifted os started H enc)
end Go.Proofs.Ytdodfimekcoclaa
#print axioms Go.Proofs.Ytdodfimekcoclaa.groupGenerate_holds
