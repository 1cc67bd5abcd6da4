/- permutation. -/
import Derived.Test.YtdodfimekcoclaaAiSeat
import Derived.Test.YtdodfimekcoclaaAiSym
import Derived.Test.YtdodfimekcoclaaF15
set_option linter.unusedVariables false
set_option linter.unusedSimpArgs false
set_option linter.unusedSectionVars false
namespace Go.Proofs
open Go.AI
set_option maxRecDepth 20000
theorem call15u {n m : Int} (h0 : 0 < m) (h1 : m ≤ 1000) (hn : -9223372036854775808 ≤ n) (hn' : n < 9223372036854775808) : call Try.cfg 15 [.v (.int .i64 n), .v (.int .i64 m)] [] = some (.v (.int .i64 (n % m)), []) := call15 h0 h1 hn hn'
/-- One place more. -/
def putP (o : List Int) (k : Nat) (i : Int) : List Int := o.take k ++ [i] ++ o.drop k
def st16 (A : List Int) (n : Nat) (o : List Int) (i : Nat) : St := ([(0, Is A), (1, I n), (5, Is o), (6, I i)], [.cells true 0 []])
section
variable {a : Code} (h : loopOf 0 Try.f16 = some a) {A : List Int} {n : Nat} {o : List Int} {i : Nat} (hA : A.length ≤ 1000) (hn : n ≤ 6) (hi : i < n) (ho : o.length = i)
include h hA hn hi ho
theorem r16b (hx : A.length ≤ i) : roundA Try.cfg 16 iter (call Try.cfg) 0 a (st16 A n o i) = some (.normal, st16 A n (putP o 0 i) (i + 1)) := by
  cases h
  simp -implicitDefEqProofs (maxSteps := 1000000) (disch := omega) only [push_cast, ↓dstAt_zero, ↓dstAt_succ, ↓arun_skip, ↓arun_region, ↓arun_seq, ↓arun_cond, ↓arun_block, ↓arun_loop, ↓arun_exit, ↓arun_ret, aops_nil, aops_cons, aops_cons_guard, ↓putA_some, ↓putA_none, ↓aop_move, ↓aop_assign, ↓aop_pick, ↓aop_alloc, ↓aop_box, ↓aop_build, ↓aop_buildSlice, ↓aop_load, ↓aop_store, ↓aop_nilCheck, ↓aop_binOp, ↓aop_unOp, ↓aop_convert, ↓aop_makeSlice, ↓aop_fieldAddr, ↓aop_field, ↓aop_indexAddr, ↓aop_index, ↓aop_lookup, ↓aop_mapUpdate, ↓aop_insert, ↓aop_extract, ↓aop_callB, ↓aop_callF, ↓aop_callT, ↓aop_makeFunc, ↓aop_makeMap, ↓aop_slice, ↓aevs_nil, ↓aevs_cons, ↓evP_nil, ↓evP_cons, ↓aevO_none, ↓aevO_some, ↓reduceIte, reduceCtorEq, Nat.reduceEqDiff, Nat.reduceAdd, Nat.reduceLT, Nat.reduceSub, Nat.reduceMul, Nat.reduceLeDiff, if_true, if_false, if_pos, if_neg, st16, putP, List.length_cons]
  have e : List.take (1 + o.length) ((i : Int) :: o) = (i : Int) :: o := List.take_of_length_le (by simp; omega)
  rw [e, Nat.add_comm 1]
  try rfl
theorem r16a {x : Int} (hlt : i < A.length) (hx : A[i]? = some x) (h1 : -9223372036854775808 ≤ x) (h2 : x < 9223372036854775808) {k : Nat} (hk : x % ((i : Int) + 1) = k) (hk' : k ≤ i) : roundA Try.cfg 16 iter (call Try.cfg) 0 a (st16 A n o i) = some (.normal, st16 A n (putP o k i) (i + 1)) := by
  cases h
  have h15 := call15u (n := x) (m := (i : Int) + 1) (by omega) (by omega) h1 h2
  rw [hk] at h15
  simp -implicitDefEqProofs (maxSteps := 1000000) (disch := omega) only [push_cast, ↓dstAt_zero, ↓dstAt_succ, ↓arun_skip, ↓arun_region, ↓arun_seq, ↓arun_cond, ↓arun_block, ↓arun_loop, ↓arun_exit, ↓arun_ret, aops_nil, aops_cons, aops_cons_guard, ↓putA_some, ↓putA_none, ↓aop_move, ↓aop_assign, ↓aop_pick, ↓aop_alloc, ↓aop_box, ↓aop_build, ↓aop_buildSlice, ↓aop_load, ↓aop_store, ↓aop_nilCheck, ↓aop_binOp, ↓aop_unOp, ↓aop_convert, ↓aop_makeSlice, ↓aop_fieldAddr, ↓aop_field, ↓aop_indexAddr, ↓aop_index, ↓aop_lookup, ↓aop_mapUpdate, ↓aop_insert, ↓aop_extract, ↓aop_callB, ↓aop_callF, ↓aop_callT, ↓aop_makeFunc, ↓aop_makeMap, ↓aop_slice, ↓aevs_nil, ↓aevs_cons, ↓evP_nil, ↓evP_cons, ↓aevO_none, ↓aevO_some, ↓reduceIte, reduceCtorEq, Nat.reduceEqDiff, Nat.reduceAdd, Nat.reduceLT, Nat.reduceSub, Nat.reduceMul, Nat.reduceLeDiff, if_true, if_false, if_pos, if_neg, Try.sh15, st16, putP, hx, h15]
  have e1 : List.take k (List.take k o) = List.take k o := by rw [List.take_take, Nat.min_self]
  have e2 : List.take (k + 1) (List.take k o ++ [(i : Int)]) = List.take k o ++ [(i : Int)] := List.take_of_length_le (by simp; omega)
  have e3 : List.take (o.length - k) (List.drop k o) = List.drop k o := List.take_of_length_le (by simp)
  have e4 : List.take (k + 1 + (o.length - k)) (List.take k o ++ [(i : Int)] ++ List.drop k o) = List.take k o ++ [(i : Int)] ++ List.drop k o := List.take_of_length_le (by simp; omega)
  rw [e1, e2, e3, e4, Nat.min_eq_left (by omega)]
  try rfl
end
theorem r16c {a : Code} (h : loopOf 0 Try.f16 = some a) {A : List Int} {n : Nat} {o : List Int} (hn : n ≤ 6) : roundA Try.cfg 16 iter (call Try.cfg) 0 a (st16 A n o n) = some (.exit 0, [(5, Is o)], [.cells true 0 []]) := by
  cases h
  simp -implicitDefEqProofs (maxSteps := 1000000) (disch := omega) only [push_cast, ↓dstAt_zero, ↓dstAt_succ, ↓arun_skip, ↓arun_region, ↓arun_seq, ↓arun_cond, ↓arun_block, ↓arun_loop, ↓arun_exit, ↓arun_ret, aops_nil, aops_cons, aops_cons_guard, ↓putA_some, ↓putA_none, ↓aop_move, ↓aop_assign, ↓aop_pick, ↓aop_alloc, ↓aop_box, ↓aop_build, ↓aop_buildSlice, ↓aop_load, ↓aop_store, ↓aop_nilCheck, ↓aop_binOp, ↓aop_unOp, ↓aop_convert, ↓aop_makeSlice, ↓aop_fieldAddr, ↓aop_field, ↓aop_indexAddr, ↓aop_index, ↓aop_lookup, ↓aop_mapUpdate, ↓aop_insert, ↓aop_extract, ↓aop_callB, ↓aop_callF, ↓aop_callT, ↓aop_makeFunc, ↓aop_makeMap, ↓aop_slice, ↓aevs_nil, ↓aevs_cons, ↓evP_nil, ↓evP_cons, ↓aevO_none, ↓aevO_some, ↓reduceIte, reduceCtorEq, Nat.reduceEqDiff, Nat.reduceAdd, Nat.reduceLT, Nat.reduceSub, Nat.reduceMul, Nat.reduceLeDiff, if_true, if_false, if_pos, if_neg, st16]
/-- The permutation that a list makes: `k` rounds from place `i`. -/
def permS (A : List Int) : Nat → List Int
  | 0 => []
  | i + 1 => putP (permS A i) (if i < A.length then (A.getD i 0 % ((i : Int) + 1)).toNat else 0) i
theorem permS_length (A : List Int) : ∀ i, (permS A i).length = i
  | 0 => rfl
  | i + 1 => by
    have h := permS_length A i
    simp only [permS, putP, List.length_append, List.length_take, List.length_drop, h, List.length_cons, List.length_nil]
    split
    · have h1 := Int.emod_nonneg (A.getD i 0) (show (i : Int) + 1 ≠ 0 by omega)
      have h2 := Int.emod_lt_of_pos (A.getD i 0) (show (0 : Int) < (i : Int) + 1 by omega)
      omega
    · omega
theorem call16 {A : List Int} {n : Nat} (hA : A.length ≤ 1000) (hn : n ≤ 6) (hr : ∀ x ∈ A, -9223372036854775808 ≤ x ∧ x < 9223372036854775808) : call Try.cfg 16 [Is A, I n] [] = some (Is (permS A n), []) := by
  refine call_step ?_
  cases hl : loopOf 0 Try.f16 with
  | none => cases hl
  | some a =>
    have hH := iter_run (F := roundA Try.cfg 16 iter (call Try.cfg) 0 a) (S := fun i => st16 A n (permS A i) i) (n := n) (fun i hi => by
      have ho := permS_length A i
      by_cases hlt : i < A.length
      · have hx : A[i]? = some (A.getD i 0) := by simp [hlt]
        have hm := hr _ (List.mem_of_getElem? hx)
        have h1 := Int.emod_nonneg (A.getD i 0) (show (i : Int) + 1 ≠ 0 by omega)
        have h2 := Int.emod_lt_of_pos (A.getD i 0) (show (0 : Int) < (i : Int) + 1 by omega)
        have := r16a (o := permS A i) hl hA hn hi ho hlt hx hm.1 hm.2 (k := (A.getD i 0 % ((i : Int) + 1)).toNat) (by omega) (by omega)
        rw [this]
        show _ = some (Ex.normal, st16 A n (permS A (i + 1)) (i + 1))
        simp only [permS, hlt, if_true]
      · have := r16b (o := permS A i) hl hA hn hi ho (by omega)
        rw [this]
        show _ = some (Ex.normal, st16 A n (permS A (i + 1)) (i + 1))
        simp only [permS, hlt, if_false]) (r16c hl hn) (by simp) n 0 (by omega)
    cases hl
    have e0 : permS A 0 = [] := rfl
    simp only [st16, Is, Int.natCast_zero, e0, List.length_nil, List.map_nil] at hH
    simp -implicitDefEqProofs (maxSteps := 1000000) (disch := omega) only [stepA, bodyA, Try.cfgO, Try.sh16, Try.func16, Try.f16, push_cast, ↓dstAt_zero, ↓dstAt_succ, ↓arun_skip, ↓arun_region, ↓arun_seq, ↓arun_cond, ↓arun_block, ↓arun_loop, ↓arun_exit, ↓arun_ret, aops_nil, aops_cons, aops_cons_guard, ↓putA_some, ↓putA_none, ↓aop_move, ↓aop_assign, ↓aop_pick, ↓aop_alloc, ↓aop_box, ↓aop_build, ↓aop_buildSlice, ↓aop_load, ↓aop_store, ↓aop_nilCheck, ↓aop_binOp, ↓aop_unOp, ↓aop_convert, ↓aop_makeSlice, ↓aop_fieldAddr, ↓aop_field, ↓aop_indexAddr, ↓aop_index, ↓aop_lookup, ↓aop_mapUpdate, ↓aop_insert, ↓aop_extract, ↓aop_callB, ↓aop_callF, ↓aop_callT, ↓aop_makeFunc, ↓aop_makeMap, ↓aop_slice, ↓aevs_nil, ↓aevs_cons, ↓evP_nil, ↓evP_cons, ↓aevO_none, ↓aevO_some, ↓reduceIte, reduceCtorEq, Nat.reduceEqDiff, Nat.reduceAdd, Nat.reduceLT, Nat.reduceSub, Nat.reduceMul, Nat.reduceLeDiff, if_true, if_false, if_pos, if_neg, hH]
end Go.Proofs
