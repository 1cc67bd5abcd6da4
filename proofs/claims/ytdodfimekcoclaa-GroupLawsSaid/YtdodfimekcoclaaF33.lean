/- product, Product, Unit, identity. -/
import Derived.Test.YtdodfimekcoclaaAiSeat
import Derived.Test.YtdodfimekcoclaaAiSym
set_option linter.unusedVariables false
set_option linter.unusedSimpArgs false
set_option linter.unusedSectionVars false
namespace Go.Proofs
open Go.AI
set_option maxRecDepth 20000
theorem get_of {l : List Int} {i : Nat} (h : i < l.length) : l[i]? = some (l.getD i 0) := by simp [h]
/-- The identity. -/
def idP (n : Nat) : List Int := (List.range n).map fun (j : Nat) => (j : Int)
/-- The product. -/
def mulP (a b : List Int) : List Int := (List.range a.length).map fun j => a.getD (b.getD j 0).toNat 0
def Perm6 (a : List Int) : Prop := a.length ≤ 6 ∧ ∀ i, i < a.length → 0 ≤ a.getD i 0 ∧ a.getD i 0 < a.length
section
variable {a : Code} (h : loopOf 0 Try.f31 = some a) {n : Nat} (hn : n ≤ 1000)
include h hn
def st31 (n i : Nat) (os : List Int) : St := ([(3, .ms 1 0 0 n 1), (8, I n), (9, I i)], [.cells true 0 [], .cells true 0 (os.map I)])
theorem r31a {i : Nat} {os : List Int} (hi : i < n) (ho : os.length = n) : roundA Try.cfg 31 iter (call Try.cfg) 0 a (st31 n i os) = some (.normal, st31 n (i + 1) (os.set i i)) := by
  cases h
  simp -implicitDefEqProofs (disch := omega) only [push_cast, ↓dstAt_zero, ↓dstAt_succ, ↓arun_skip, ↓arun_region, ↓arun_seq, ↓arun_cond, ↓arun_block, ↓arun_loop, ↓arun_exit, ↓arun_ret, aops_nil, aops_cons, aops_cons_guard, ↓putA_some, ↓putA_none, ↓aop_move, ↓aop_assign, ↓aop_pick, ↓aop_alloc, ↓aop_box, ↓aop_build, ↓aop_buildSlice, ↓aop_load, ↓aop_store, ↓aop_nilCheck, ↓aop_binOp, ↓aop_unOp, ↓aop_convert, ↓aop_makeSlice, ↓aop_fieldAddr, ↓aop_field, ↓aop_indexAddr, ↓aop_index, ↓aop_lookup, ↓aop_mapUpdate, ↓aop_insert, ↓aop_extract, ↓aop_callB, ↓aop_callF, ↓aop_callT, ↓aop_makeFunc, ↓aop_makeMap, ↓aop_slice, ↓aevs_nil, ↓aevs_cons, ↓evP_nil, ↓evP_cons, ↓aevO_none, ↓aevO_some, ↓reduceIte, reduceCtorEq, Nat.reduceEqDiff, Nat.reduceAdd, Nat.reduceLT, Nat.reduceSub, Nat.reduceMul, Nat.reduceLeDiff, if_true, if_false, if_pos, if_neg, st31]
  try rfl
theorem r31b {os : List Int} (ho : os.length = n) : roundA Try.cfg 31 iter (call Try.cfg) 0 a (st31 n n os) = some (.exit 0, [(3, .ms 1 0 0 n 1)], [.cells true 0 [], .cells true 0 (os.map I)]) := by
  cases h
  simp -implicitDefEqProofs (disch := omega) only [push_cast, ↓dstAt_zero, ↓dstAt_succ, ↓arun_skip, ↓arun_region, ↓arun_seq, ↓arun_cond, ↓arun_block, ↓arun_loop, ↓arun_exit, ↓arun_ret, aops_nil, aops_cons, aops_cons_guard, ↓putA_some, ↓putA_none, ↓aop_move, ↓aop_assign, ↓aop_pick, ↓aop_alloc, ↓aop_box, ↓aop_build, ↓aop_buildSlice, ↓aop_load, ↓aop_store, ↓aop_nilCheck, ↓aop_binOp, ↓aop_unOp, ↓aop_convert, ↓aop_makeSlice, ↓aop_fieldAddr, ↓aop_field, ↓aop_indexAddr, ↓aop_index, ↓aop_lookup, ↓aop_mapUpdate, ↓aop_insert, ↓aop_extract, ↓aop_callB, ↓aop_callF, ↓aop_callT, ↓aop_makeFunc, ↓aop_makeMap, ↓aop_slice, ↓aevs_nil, ↓aevs_cons, ↓evP_nil, ↓evP_cons, ↓aevO_none, ↓aevO_some, ↓reduceIte, reduceCtorEq, Nat.reduceEqDiff, Nat.reduceAdd, Nat.reduceLT, Nat.reduceSub, Nat.reduceMul, Nat.reduceLeDiff, if_true, if_false, if_pos, if_neg, st31]
end
theorem call31 {n : Nat} (hn : n ≤ 1000) : call Try.cfg 31 [I n] [] = some (.sl false n ((idP n).map I), []) := by
  refine call_step ?_
  cases hl : loopOf 0 Try.f31 with
  | none => cases hl
  | some a =>
    have hH := iter_run (S := fun i => st31 n i (upto (fun (j : Nat) => (j : Int)) 0 n i)) (fun i hi => by
      show _ = some (Ex.normal, st31 n (i + 1) (upto (fun (j : Nat) => (j : Int)) 0 n (i + 1)))
      rw [← upto_set (fun (j : Nat) => (j : Int)) 0 hi]
      exact r31a hl hn hi (upto_length _ _ _ _)) (r31b hl hn (upto_length _ _ _ _)) (by simp) n 0 (by omega)
    cases hl
    have hlen : (idP n).length = n := by simp [idP]
    simp only [st31, Int.natCast_zero, upto_zero, upto_all] at hH
    rw [show (List.range n).map (fun (j : Nat) => (j : Int)) = idP n from rfl] at hH
    simp -implicitDefEqProofs (disch := omega) only [stepA, bodyA, Try.cfgO, Try.sh31, Try.func31, Try.f31, push_cast, ↓dstAt_zero, ↓dstAt_succ, ↓arun_skip, ↓arun_region, ↓arun_seq, ↓arun_cond, ↓arun_block, ↓arun_loop, ↓arun_exit, ↓arun_ret, aops_nil, aops_cons, aops_cons_guard, ↓putA_some, ↓putA_none, ↓aop_move, ↓aop_assign, ↓aop_pick, ↓aop_alloc, ↓aop_box, ↓aop_build, ↓aop_buildSlice, ↓aop_load, ↓aop_store, ↓aop_nilCheck, ↓aop_binOp, ↓aop_unOp, ↓aop_convert, ↓aop_makeSlice, ↓aop_fieldAddr, ↓aop_field, ↓aop_indexAddr, ↓aop_index, ↓aop_lookup, ↓aop_mapUpdate, ↓aop_insert, ↓aop_extract, ↓aop_callB, ↓aop_callF, ↓aop_callT, ↓aop_makeFunc, ↓aop_makeMap, ↓aop_slice, ↓aevs_nil, ↓aevs_cons, ↓evP_nil, ↓evP_cons, ↓aevO_none, ↓aevO_some, ↓reduceIte, reduceCtorEq, Nat.reduceEqDiff, Nat.reduceAdd, Nat.reduceLT, Nat.reduceSub, Nat.reduceMul, Nat.reduceLeDiff, if_true, if_false, if_pos, if_neg, hH]
section
variable {a : Code} (h : loopOf 0 Try.f38 = some a) {n : Nat} (hn : n ≤ 1000)
include h hn
def st38 (n i : Nat) (os : List Int) : St := ([(0, I n), (3, .ms 1 0 0 n 1), (4, I i)], [.cells true 0 [], .cells true 0 (os.map I)])
theorem r38a {i : Nat} {os : List Int} (hi : i < n) (ho : os.length = n) : roundA Try.cfg 38 iter (call Try.cfg) 0 a (st38 n i os) = some (.normal, st38 n (i + 1) (os.set i i)) := by
  cases h
  simp -implicitDefEqProofs (disch := omega) only [push_cast, ↓dstAt_zero, ↓dstAt_succ, ↓arun_skip, ↓arun_region, ↓arun_seq, ↓arun_cond, ↓arun_block, ↓arun_loop, ↓arun_exit, ↓arun_ret, aops_nil, aops_cons, aops_cons_guard, ↓putA_some, ↓putA_none, ↓aop_move, ↓aop_assign, ↓aop_pick, ↓aop_alloc, ↓aop_box, ↓aop_build, ↓aop_buildSlice, ↓aop_load, ↓aop_store, ↓aop_nilCheck, ↓aop_binOp, ↓aop_unOp, ↓aop_convert, ↓aop_makeSlice, ↓aop_fieldAddr, ↓aop_field, ↓aop_indexAddr, ↓aop_index, ↓aop_lookup, ↓aop_mapUpdate, ↓aop_insert, ↓aop_extract, ↓aop_callB, ↓aop_callF, ↓aop_callT, ↓aop_makeFunc, ↓aop_makeMap, ↓aop_slice, ↓aevs_nil, ↓aevs_cons, ↓evP_nil, ↓evP_cons, ↓aevO_none, ↓aevO_some, ↓reduceIte, reduceCtorEq, Nat.reduceEqDiff, Nat.reduceAdd, Nat.reduceLT, Nat.reduceSub, Nat.reduceMul, Nat.reduceLeDiff, if_true, if_false, if_pos, if_neg, st38]
  try rfl
theorem r38b {os : List Int} (ho : os.length = n) : roundA Try.cfg 38 iter (call Try.cfg) 0 a (st38 n n os) = some (.exit 0, [(3, .ms 1 0 0 n 1)], [.cells true 0 [], .cells true 0 (os.map I)]) := by
  cases h
  simp -implicitDefEqProofs (disch := omega) only [push_cast, ↓dstAt_zero, ↓dstAt_succ, ↓arun_skip, ↓arun_region, ↓arun_seq, ↓arun_cond, ↓arun_block, ↓arun_loop, ↓arun_exit, ↓arun_ret, aops_nil, aops_cons, aops_cons_guard, ↓putA_some, ↓putA_none, ↓aop_move, ↓aop_assign, ↓aop_pick, ↓aop_alloc, ↓aop_box, ↓aop_build, ↓aop_buildSlice, ↓aop_load, ↓aop_store, ↓aop_nilCheck, ↓aop_binOp, ↓aop_unOp, ↓aop_convert, ↓aop_makeSlice, ↓aop_fieldAddr, ↓aop_field, ↓aop_indexAddr, ↓aop_index, ↓aop_lookup, ↓aop_mapUpdate, ↓aop_insert, ↓aop_extract, ↓aop_callB, ↓aop_callF, ↓aop_callT, ↓aop_makeFunc, ↓aop_makeMap, ↓aop_slice, ↓aevs_nil, ↓aevs_cons, ↓evP_nil, ↓evP_cons, ↓aevO_none, ↓aevO_some, ↓reduceIte, reduceCtorEq, Nat.reduceEqDiff, Nat.reduceAdd, Nat.reduceLT, Nat.reduceSub, Nat.reduceMul, Nat.reduceLeDiff, if_true, if_false, if_pos, if_neg, st38]
end
theorem call38 {n : Nat} (hn : n ≤ 1000) : call Try.cfg 38 [I n] [] = some (.sl false n ((idP n).map I), []) := by
  refine call_step ?_
  cases hl : loopOf 0 Try.f38 with
  | none => cases hl
  | some a =>
    have hH := iter_run (S := fun i => st38 n i (upto (fun (j : Nat) => (j : Int)) 0 n i)) (fun i hi => by
      show _ = some (Ex.normal, st38 n (i + 1) (upto (fun (j : Nat) => (j : Int)) 0 n (i + 1)))
      rw [← upto_set (fun (j : Nat) => (j : Int)) 0 hi]
      exact r38a hl hn hi (upto_length _ _ _ _)) (r38b hl hn (upto_length _ _ _ _)) (by simp) n 0 (by omega)
    cases hl
    have hlen : (idP n).length = n := by simp [idP]
    simp only [st38, Int.natCast_zero, upto_zero, upto_all] at hH
    rw [show (List.range n).map (fun (j : Nat) => (j : Int)) = idP n from rfl] at hH
    simp -implicitDefEqProofs (disch := omega) only [stepA, bodyA, Try.cfgO, Try.sh38, Try.func38, Try.f38, push_cast, ↓dstAt_zero, ↓dstAt_succ, ↓arun_skip, ↓arun_region, ↓arun_seq, ↓arun_cond, ↓arun_block, ↓arun_loop, ↓arun_exit, ↓arun_ret, aops_nil, aops_cons, aops_cons_guard, ↓putA_some, ↓putA_none, ↓aop_move, ↓aop_assign, ↓aop_pick, ↓aop_alloc, ↓aop_box, ↓aop_build, ↓aop_buildSlice, ↓aop_load, ↓aop_store, ↓aop_nilCheck, ↓aop_binOp, ↓aop_unOp, ↓aop_convert, ↓aop_makeSlice, ↓aop_fieldAddr, ↓aop_field, ↓aop_indexAddr, ↓aop_index, ↓aop_lookup, ↓aop_mapUpdate, ↓aop_insert, ↓aop_extract, ↓aop_callB, ↓aop_callF, ↓aop_callT, ↓aop_makeFunc, ↓aop_makeMap, ↓aop_slice, ↓aevs_nil, ↓aevs_cons, ↓evP_nil, ↓evP_cons, ↓aevO_none, ↓aevO_some, ↓reduceIte, reduceCtorEq, Nat.reduceEqDiff, Nat.reduceAdd, Nat.reduceLT, Nat.reduceSub, Nat.reduceMul, Nat.reduceLeDiff, if_true, if_false, if_pos, if_neg, hH]
section
variable {a : Code} (h : loopOf 0 Try.f33 = some a) {A C : List Int} (hA : A.length ≤ 6) (hC : C.length = A.length) (hr : ∀ i, i < A.length → 0 ≤ C.getD i 0 ∧ C.getD i 0 < A.length)
include h hA hC hr
def st33 (A C : List Int) (i : Nat) (os : List Int) : St := ([(0, Is A), (5, .ms 1 0 0 A.length 1), (11, Is C), (12, I C.length), (13, I i)], [.cells true 0 [], .cells true 0 (os.map I)])
theorem r33a {i : Nat} {os : List Int} (hi : i < A.length) (ho : os.length = A.length) : roundA Try.cfg 33 iter (call Try.cfg) 0 a (st33 A C i os) = some (.normal, st33 A C (i + 1) (os.set i (A.getD (C.getD i 0).toNat 0))) := by
  cases h
  have h1 := hr i hi
  have hx : C[i]? = some (C.getD i 0) := get_of (by omega)
  generalize C.getD i 0 = x at *
  have hy : A[x.toNat]? = some (A.getD x.toNat 0) := get_of (by omega)
  simp -implicitDefEqProofs (disch := omega) only [push_cast, ↓dstAt_zero, ↓dstAt_succ, ↓arun_skip, ↓arun_region, ↓arun_seq, ↓arun_cond, ↓arun_block, ↓arun_loop, ↓arun_exit, ↓arun_ret, aops_nil, aops_cons, aops_cons_guard, ↓putA_some, ↓putA_none, ↓aop_move, ↓aop_assign, ↓aop_pick, ↓aop_alloc, ↓aop_box, ↓aop_build, ↓aop_buildSlice, ↓aop_load, ↓aop_store, ↓aop_nilCheck, ↓aop_binOp, ↓aop_unOp, ↓aop_convert, ↓aop_makeSlice, ↓aop_fieldAddr, ↓aop_field, ↓aop_indexAddr, ↓aop_index, ↓aop_lookup, ↓aop_mapUpdate, ↓aop_insert, ↓aop_extract, ↓aop_callB, ↓aop_callF, ↓aop_callT, ↓aop_makeFunc, ↓aop_makeMap, ↓aop_slice, ↓aevs_nil, ↓aevs_cons, ↓evP_nil, ↓evP_cons, ↓aevO_none, ↓aevO_some, ↓reduceIte, reduceCtorEq, Nat.reduceEqDiff, Nat.reduceAdd, Nat.reduceLT, Nat.reduceSub, Nat.reduceMul, Nat.reduceLeDiff, if_true, if_false, if_pos, if_neg, st33, hx, hy]
  try rfl
theorem r33b {os : List Int} (ho : os.length = A.length) : roundA Try.cfg 33 iter (call Try.cfg) 0 a (st33 A C A.length os) = some (.exit 0, [(5, .ms 1 0 0 A.length 1)], [.cells true 0 [], .cells true 0 (os.map I)]) := by
  cases h
  simp -implicitDefEqProofs (disch := omega) only [push_cast, ↓dstAt_zero, ↓dstAt_succ, ↓arun_skip, ↓arun_region, ↓arun_seq, ↓arun_cond, ↓arun_block, ↓arun_loop, ↓arun_exit, ↓arun_ret, aops_nil, aops_cons, aops_cons_guard, ↓putA_some, ↓putA_none, ↓aop_move, ↓aop_assign, ↓aop_pick, ↓aop_alloc, ↓aop_box, ↓aop_build, ↓aop_buildSlice, ↓aop_load, ↓aop_store, ↓aop_nilCheck, ↓aop_binOp, ↓aop_unOp, ↓aop_convert, ↓aop_makeSlice, ↓aop_fieldAddr, ↓aop_field, ↓aop_indexAddr, ↓aop_index, ↓aop_lookup, ↓aop_mapUpdate, ↓aop_insert, ↓aop_extract, ↓aop_callB, ↓aop_callF, ↓aop_callT, ↓aop_makeFunc, ↓aop_makeMap, ↓aop_slice, ↓aevs_nil, ↓aevs_cons, ↓evP_nil, ↓evP_cons, ↓aevO_none, ↓aevO_some, ↓reduceIte, reduceCtorEq, Nat.reduceEqDiff, Nat.reduceAdd, Nat.reduceLT, Nat.reduceSub, Nat.reduceMul, Nat.reduceLeDiff, if_true, if_false, if_pos, if_neg, st33]
end
theorem call33 {A C : List Int} (hA : A.length ≤ 6) (hC : C.length = A.length) (hr : ∀ i, i < A.length → 0 ≤ C.getD i 0 ∧ C.getD i 0 < A.length) : call Try.cfg 33 [Is A, Is C] [] = some (.sl false A.length ((mulP A C).map I), []) := by
  refine call_step ?_
  cases hl : loopOf 0 Try.f33 with
  | none => cases hl
  | some a =>
    have hH := iter_run (S := fun i => st33 A C i (upto (fun j => A.getD (C.getD j 0).toNat 0) 0 A.length i)) (fun i hi => by
      show _ = some (Ex.normal, st33 A C (i + 1) (upto (fun j => A.getD (C.getD j 0).toNat 0) 0 A.length (i + 1)))
      rw [← upto_set (fun j => A.getD (C.getD j 0).toNat 0) 0 hi]
      exact r33a hl hA hC hr hi (upto_length _ _ _ _)) (r33b hl hA hC hr (upto_length _ _ _ _)) (by simp) A.length 0 (by omega)
    cases hl
    have hlen : (mulP A C).length = A.length := by simp [mulP]
    simp only [st33, Is, Int.natCast_zero, upto_zero, upto_all] at hH
    rw [show (List.range A.length).map (fun j => A.getD (C.getD j 0).toNat 0) = mulP A C from rfl] at hH
    simp -implicitDefEqProofs (disch := omega) only [stepA, bodyA, Try.cfgO, Try.sh33, Try.func33, Try.f33, push_cast, ↓dstAt_zero, ↓dstAt_succ, ↓arun_skip, ↓arun_region, ↓arun_seq, ↓arun_cond, ↓arun_block, ↓arun_loop, ↓arun_exit, ↓arun_ret, aops_nil, aops_cons, aops_cons_guard, ↓putA_some, ↓putA_none, ↓aop_move, ↓aop_assign, ↓aop_pick, ↓aop_alloc, ↓aop_box, ↓aop_build, ↓aop_buildSlice, ↓aop_load, ↓aop_store, ↓aop_nilCheck, ↓aop_binOp, ↓aop_unOp, ↓aop_convert, ↓aop_makeSlice, ↓aop_fieldAddr, ↓aop_field, ↓aop_indexAddr, ↓aop_index, ↓aop_lookup, ↓aop_mapUpdate, ↓aop_insert, ↓aop_extract, ↓aop_callB, ↓aop_callF, ↓aop_callT, ↓aop_makeFunc, ↓aop_makeMap, ↓aop_slice, ↓aevs_nil, ↓aevs_cons, ↓evP_nil, ↓evP_cons, ↓aevO_none, ↓aevO_some, ↓reduceIte, reduceCtorEq, Nat.reduceEqDiff, Nat.reduceAdd, Nat.reduceLT, Nat.reduceSub, Nat.reduceMul, Nat.reduceLeDiff, if_true, if_false, if_pos, if_neg, hH]
section
variable {a : Code} (h : loopOf 0 Try.f41 = some a) {A C : List Int} (hA : A.length ≤ 6) (hC : C.length = A.length) (hr : ∀ i, i < A.length → 0 ≤ C.getD i 0 ∧ C.getD i 0 < A.length)
include h hA hC hr
def st41 (A C : List Int) (i : Nat) (os : List Int) : St := ([(0, Is A), (1, Is C), (5, .ms 1 0 0 A.length 1), (6, I i)], [.cells true 0 [], .cells true 0 (os.map I)])
theorem r41a {i : Nat} {os : List Int} (hi : i < A.length) (ho : os.length = A.length) : roundA Try.cfg 41 iter (call Try.cfg) 0 a (st41 A C i os) = some (.normal, st41 A C (i + 1) (os.set i (A.getD (C.getD i 0).toNat 0))) := by
  cases h
  have h1 := hr i hi
  have hx : C[i]? = some (C.getD i 0) := get_of (by omega)
  generalize C.getD i 0 = x at *
  have hy : A[x.toNat]? = some (A.getD x.toNat 0) := get_of (by omega)
  simp -implicitDefEqProofs (disch := omega) only [push_cast, ↓dstAt_zero, ↓dstAt_succ, ↓arun_skip, ↓arun_region, ↓arun_seq, ↓arun_cond, ↓arun_block, ↓arun_loop, ↓arun_exit, ↓arun_ret, aops_nil, aops_cons, aops_cons_guard, ↓putA_some, ↓putA_none, ↓aop_move, ↓aop_assign, ↓aop_pick, ↓aop_alloc, ↓aop_box, ↓aop_build, ↓aop_buildSlice, ↓aop_load, ↓aop_store, ↓aop_nilCheck, ↓aop_binOp, ↓aop_unOp, ↓aop_convert, ↓aop_makeSlice, ↓aop_fieldAddr, ↓aop_field, ↓aop_indexAddr, ↓aop_index, ↓aop_lookup, ↓aop_mapUpdate, ↓aop_insert, ↓aop_extract, ↓aop_callB, ↓aop_callF, ↓aop_callT, ↓aop_makeFunc, ↓aop_makeMap, ↓aop_slice, ↓aevs_nil, ↓aevs_cons, ↓evP_nil, ↓evP_cons, ↓aevO_none, ↓aevO_some, ↓reduceIte, reduceCtorEq, Nat.reduceEqDiff, Nat.reduceAdd, Nat.reduceLT, Nat.reduceSub, Nat.reduceMul, Nat.reduceLeDiff, if_true, if_false, if_pos, if_neg, st41, hx, hy]
  try rfl
theorem r41b {os : List Int} (ho : os.length = A.length) : roundA Try.cfg 41 iter (call Try.cfg) 0 a (st41 A C A.length os) = some (.exit 0, [(5, .ms 1 0 0 A.length 1)], [.cells true 0 [], .cells true 0 (os.map I)]) := by
  cases h
  simp -implicitDefEqProofs (disch := omega) only [push_cast, ↓dstAt_zero, ↓dstAt_succ, ↓arun_skip, ↓arun_region, ↓arun_seq, ↓arun_cond, ↓arun_block, ↓arun_loop, ↓arun_exit, ↓arun_ret, aops_nil, aops_cons, aops_cons_guard, ↓putA_some, ↓putA_none, ↓aop_move, ↓aop_assign, ↓aop_pick, ↓aop_alloc, ↓aop_box, ↓aop_build, ↓aop_buildSlice, ↓aop_load, ↓aop_store, ↓aop_nilCheck, ↓aop_binOp, ↓aop_unOp, ↓aop_convert, ↓aop_makeSlice, ↓aop_fieldAddr, ↓aop_field, ↓aop_indexAddr, ↓aop_index, ↓aop_lookup, ↓aop_mapUpdate, ↓aop_insert, ↓aop_extract, ↓aop_callB, ↓aop_callF, ↓aop_callT, ↓aop_makeFunc, ↓aop_makeMap, ↓aop_slice, ↓aevs_nil, ↓aevs_cons, ↓evP_nil, ↓evP_cons, ↓aevO_none, ↓aevO_some, ↓reduceIte, reduceCtorEq, Nat.reduceEqDiff, Nat.reduceAdd, Nat.reduceLT, Nat.reduceSub, Nat.reduceMul, Nat.reduceLeDiff, if_true, if_false, if_pos, if_neg, st41]
end
theorem call41 {A C : List Int} (hA : A.length ≤ 6) (hC : C.length = A.length) (hr : ∀ i, i < A.length → 0 ≤ C.getD i 0 ∧ C.getD i 0 < A.length) : call Try.cfg 41 [Is A, Is C] [] = some (.sl false A.length ((mulP A C).map I), []) := by
  refine call_step ?_
  cases hl : loopOf 0 Try.f41 with
  | none => cases hl
  | some a =>
    have hH := iter_run (S := fun i => st41 A C i (upto (fun j => A.getD (C.getD j 0).toNat 0) 0 A.length i)) (fun i hi => by
      show _ = some (Ex.normal, st41 A C (i + 1) (upto (fun j => A.getD (C.getD j 0).toNat 0) 0 A.length (i + 1)))
      rw [← upto_set (fun j => A.getD (C.getD j 0).toNat 0) 0 hi]
      exact r41a hl hA hC hr hi (upto_length _ _ _ _)) (r41b hl hA hC hr (upto_length _ _ _ _)) (by simp) A.length 0 (by omega)
    cases hl
    have hlen : (mulP A C).length = A.length := by simp [mulP]
    simp only [st41, Is, Int.natCast_zero, upto_zero, upto_all] at hH
    rw [show (List.range A.length).map (fun j => A.getD (C.getD j 0).toNat 0) = mulP A C from rfl] at hH
    simp -implicitDefEqProofs (disch := omega) only [stepA, bodyA, Try.cfgO, Try.sh41, Try.func41, Try.f41, push_cast, ↓dstAt_zero, ↓dstAt_succ, ↓arun_skip, ↓arun_region, ↓arun_seq, ↓arun_cond, ↓arun_block, ↓arun_loop, ↓arun_exit, ↓arun_ret, aops_nil, aops_cons, aops_cons_guard, ↓putA_some, ↓putA_none, ↓aop_move, ↓aop_assign, ↓aop_pick, ↓aop_alloc, ↓aop_box, ↓aop_build, ↓aop_buildSlice, ↓aop_load, ↓aop_store, ↓aop_nilCheck, ↓aop_binOp, ↓aop_unOp, ↓aop_convert, ↓aop_makeSlice, ↓aop_fieldAddr, ↓aop_field, ↓aop_indexAddr, ↓aop_index, ↓aop_lookup, ↓aop_mapUpdate, ↓aop_insert, ↓aop_extract, ↓aop_callB, ↓aop_callF, ↓aop_callT, ↓aop_makeFunc, ↓aop_makeMap, ↓aop_slice, ↓aevs_nil, ↓aevs_cons, ↓evP_nil, ↓evP_cons, ↓aevO_none, ↓aevO_some, ↓reduceIte, reduceCtorEq, Nat.reduceEqDiff, Nat.reduceAdd, Nat.reduceLT, Nat.reduceSub, Nat.reduceMul, Nat.reduceLeDiff, if_true, if_false, if_pos, if_neg, hH]
end Go.Proofs
