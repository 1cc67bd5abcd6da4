/- group.Valid. -/
import Derived.Test.YtdodfimekcoclaaAiSeat
import Derived.Test.YtdodfimekcoclaaAiSym
set_option linter.unusedVariables false
set_option linter.unusedSimpArgs false
set_option linter.unusedSectionVars false
namespace Go.Proofs
open Go.AI
set_option maxRecDepth 20000
/-- What group.Valid computes behind its first test. -/
def seenL (n : Int) : List Int → List Bool → Bool
  | [], _ => true
  | x :: r, bs => if x < 0 then false else if n ≤ x then false else if bs.getD x.toNat false then false else seenL n r (bs.set x.toNat true)
section
variable {a : Code} (h : loopOf 0 Try.f23 = some a) {A : List Int} {bs : List Bool} (hb : bs.length = 6) {i : Nat} (hA : A.length ≤ 6)
include h hb hA
def st23 (A : List Int) (i : Nat) (bs : List Bool) : St := ([(0, Is A), (3, .mp 0 0 0), (9, Is A), (10, I A.length), (11, I i)], [.cells true 0 (Bs bs)])
theorem r23a (hi : i < A.length) {x : Int} (hx : A[i]? = some x) (h1 : x < 0) : roundA Try.cfg 23 iter (call Try.cfg) 0 a (st23 A i bs) = some (.ret, [(2, B false)], [.cells true 0 (Bs bs)]) := by
  cases h
  simp -implicitDefEqProofs (disch := omega) only [push_cast, ↓dstAt_zero, ↓dstAt_succ, ↓arun_skip, ↓arun_region, ↓arun_seq, ↓arun_cond, ↓arun_block, ↓arun_loop, ↓arun_exit, ↓arun_ret, aops_nil, aops_cons, aops_cons_guard, ↓putA_some, ↓putA_none, ↓aop_move, ↓aop_assign, ↓aop_pick, ↓aop_alloc, ↓aop_box, ↓aop_build, ↓aop_buildSlice, ↓aop_load, ↓aop_store, ↓aop_nilCheck, ↓aop_binOp, ↓aop_unOp, ↓aop_convert, ↓aop_makeSlice, ↓aop_fieldAddr, ↓aop_field, ↓aop_indexAddr, ↓aop_index, ↓aop_lookup, ↓aop_mapUpdate, ↓aop_insert, ↓aop_extract, ↓aop_callB, ↓aop_callF, ↓aop_callT, ↓aop_makeFunc, ↓aop_makeMap, ↓aop_slice, ↓aevs_nil, ↓aevs_cons, ↓evP_nil, ↓evP_cons, ↓aevO_none, ↓aevO_some, ↓reduceIte, reduceCtorEq, Nat.reduceEqDiff, Nat.reduceAdd, Nat.reduceLT, Nat.reduceSub, Nat.reduceMul, Nat.reduceLeDiff, if_true, if_false, if_pos, if_neg, st23, hx]
theorem r23b (hi : i < A.length) {x : Int} (hx : A[i]? = some x) (h1 : 0 ≤ x) (h2 : A.length ≤ x) : roundA Try.cfg 23 iter (call Try.cfg) 0 a (st23 A i bs) = some (.ret, [(2, B false)], [.cells true 0 (Bs bs)]) := by
  cases h
  simp -implicitDefEqProofs (disch := omega) only [push_cast, ↓dstAt_zero, ↓dstAt_succ, ↓arun_skip, ↓arun_region, ↓arun_seq, ↓arun_cond, ↓arun_block, ↓arun_loop, ↓arun_exit, ↓arun_ret, aops_nil, aops_cons, aops_cons_guard, ↓putA_some, ↓putA_none, ↓aop_move, ↓aop_assign, ↓aop_pick, ↓aop_alloc, ↓aop_box, ↓aop_build, ↓aop_buildSlice, ↓aop_load, ↓aop_store, ↓aop_nilCheck, ↓aop_binOp, ↓aop_unOp, ↓aop_convert, ↓aop_makeSlice, ↓aop_fieldAddr, ↓aop_field, ↓aop_indexAddr, ↓aop_index, ↓aop_lookup, ↓aop_mapUpdate, ↓aop_insert, ↓aop_extract, ↓aop_callB, ↓aop_callF, ↓aop_callT, ↓aop_makeFunc, ↓aop_makeMap, ↓aop_slice, ↓aevs_nil, ↓aevs_cons, ↓evP_nil, ↓evP_cons, ↓aevO_none, ↓aevO_some, ↓reduceIte, reduceCtorEq, Nat.reduceEqDiff, Nat.reduceAdd, Nat.reduceLT, Nat.reduceSub, Nat.reduceMul, Nat.reduceLeDiff, if_true, if_false, if_pos, if_neg, st23, hx]
theorem r23c (hi : i < A.length) {x : Int} (hx : A[i]? = some x) (h1 : 0 ≤ x) (h2 : x < A.length) (h3 : bs[x.toNat]? = some true) : roundA Try.cfg 23 iter (call Try.cfg) 0 a (st23 A i bs) = some (.ret, [(2, B false)], [.cells true 0 (Bs bs)]) := by
  cases h
  simp -implicitDefEqProofs (disch := omega) only [push_cast, ↓dstAt_zero, ↓dstAt_succ, ↓arun_skip, ↓arun_region, ↓arun_seq, ↓arun_cond, ↓arun_block, ↓arun_loop, ↓arun_exit, ↓arun_ret, aops_nil, aops_cons, aops_cons_guard, ↓putA_some, ↓putA_none, ↓aop_move, ↓aop_assign, ↓aop_pick, ↓aop_alloc, ↓aop_box, ↓aop_build, ↓aop_buildSlice, ↓aop_load, ↓aop_store, ↓aop_nilCheck, ↓aop_binOp, ↓aop_unOp, ↓aop_convert, ↓aop_makeSlice, ↓aop_fieldAddr, ↓aop_field, ↓aop_indexAddr, ↓aop_index, ↓aop_lookup, ↓aop_mapUpdate, ↓aop_insert, ↓aop_extract, ↓aop_callB, ↓aop_callF, ↓aop_callT, ↓aop_makeFunc, ↓aop_makeMap, ↓aop_slice, ↓aevs_nil, ↓aevs_cons, ↓evP_nil, ↓evP_cons, ↓aevO_none, ↓aevO_some, ↓reduceIte, reduceCtorEq, Nat.reduceEqDiff, Nat.reduceAdd, Nat.reduceLT, Nat.reduceSub, Nat.reduceMul, Nat.reduceLeDiff, if_true, if_false, if_pos, if_neg, st23, hx, h3]
theorem r23d (hi : i < A.length) {x : Int} (hx : A[i]? = some x) (h1 : 0 ≤ x) (h2 : x < A.length) (h3 : bs[x.toNat]? = some false) : roundA Try.cfg 23 iter (call Try.cfg) 0 a (st23 A i bs) = some (.normal, st23 A (i + 1) (bs.set x.toNat true)) := by
  cases h
  simp -implicitDefEqProofs (disch := omega) only [push_cast, ↓dstAt_zero, ↓dstAt_succ, ↓arun_skip, ↓arun_region, ↓arun_seq, ↓arun_cond, ↓arun_block, ↓arun_loop, ↓arun_exit, ↓arun_ret, aops_nil, aops_cons, aops_cons_guard, ↓putA_some, ↓putA_none, ↓aop_move, ↓aop_assign, ↓aop_pick, ↓aop_alloc, ↓aop_box, ↓aop_build, ↓aop_buildSlice, ↓aop_load, ↓aop_store, ↓aop_nilCheck, ↓aop_binOp, ↓aop_unOp, ↓aop_convert, ↓aop_makeSlice, ↓aop_fieldAddr, ↓aop_field, ↓aop_indexAddr, ↓aop_index, ↓aop_lookup, ↓aop_mapUpdate, ↓aop_insert, ↓aop_extract, ↓aop_callB, ↓aop_callF, ↓aop_callT, ↓aop_makeFunc, ↓aop_makeMap, ↓aop_slice, ↓aevs_nil, ↓aevs_cons, ↓evP_nil, ↓evP_cons, ↓aevO_none, ↓aevO_some, ↓reduceIte, reduceCtorEq, Nat.reduceEqDiff, Nat.reduceAdd, Nat.reduceLT, Nat.reduceSub, Nat.reduceMul, Nat.reduceLeDiff, if_true, if_false, if_pos, if_neg, st23, hx, h3]
  try rfl
theorem r23e (hi : i = A.length) : roundA Try.cfg 23 iter (call Try.cfg) 0 a (st23 A i bs) = some (.exit 0, [], [.cells true 0 (Bs bs)]) := by
  cases h
  simp -implicitDefEqProofs (disch := omega) only [push_cast, ↓dstAt_zero, ↓dstAt_succ, ↓arun_skip, ↓arun_region, ↓arun_seq, ↓arun_cond, ↓arun_block, ↓arun_loop, ↓arun_exit, ↓arun_ret, aops_nil, aops_cons, aops_cons_guard, ↓putA_some, ↓putA_none, ↓aop_move, ↓aop_assign, ↓aop_pick, ↓aop_alloc, ↓aop_box, ↓aop_build, ↓aop_buildSlice, ↓aop_load, ↓aop_store, ↓aop_nilCheck, ↓aop_binOp, ↓aop_unOp, ↓aop_convert, ↓aop_makeSlice, ↓aop_fieldAddr, ↓aop_field, ↓aop_indexAddr, ↓aop_index, ↓aop_lookup, ↓aop_mapUpdate, ↓aop_insert, ↓aop_extract, ↓aop_callB, ↓aop_callF, ↓aop_callT, ↓aop_makeFunc, ↓aop_makeMap, ↓aop_slice, ↓aevs_nil, ↓aevs_cons, ↓evP_nil, ↓evP_cons, ↓aevO_none, ↓aevO_some, ↓reduceIte, reduceCtorEq, Nat.reduceEqDiff, Nat.reduceAdd, Nat.reduceLT, Nat.reduceSub, Nat.reduceMul, Nat.reduceLeDiff, if_true, if_false, if_pos, if_neg, st23]
omit hb in
theorem l23 : ∀ (r pre : List Int) (bs : List Bool), bs.length = 6 → A = pre ++ r → ∃ H, iter (roundA Try.cfg 23 iter (call Try.cfg) 0 a) (st23 A pre.length bs) = some (if seenL A.length r bs then (.exit 0, [], H) else (.ret, [(2, B false)], H))
  | [], pre, bs, hb, hp => by
    refine ⟨_, iter_last (r23e h hb hA (by simp [hp])) (by simp [seenL])⟩
  | x :: r, pre, bs, hb, hp => by
    have hi : pre.length < A.length := by simp [hp]
    have hx : A[pre.length]? = some x := by simp [hp]
    by_cases h1 : x < 0
    · refine ⟨[.cells true 0 (Bs bs)], ?_⟩
      simp only [seenL, h1, if_true, Bool.false_eq_true, if_false]
      exact iter_last (r23a h hb hA hi hx h1) (by simp)
    by_cases h2 : (A.length : Int) ≤ x
    · refine ⟨[.cells true 0 (Bs bs)], ?_⟩
      simp only [seenL, h1, h2, if_true, Bool.false_eq_true, if_false]
      exact iter_last (r23b h hb hA hi hx (by omega) h2) (by simp)
    have h4 : x.toNat < bs.length := by omega
    have hg : bs[x.toNat]? = some (bs.getD x.toNat false) := by simp [h4]
    cases h3 : bs.getD x.toNat false with
    | true =>
      rw [h3] at hg
      refine ⟨[.cells true 0 (Bs bs)], ?_⟩
      simp only [seenL, h1, h2, h3, if_true, Bool.false_eq_true, if_false]
      exact iter_last (r23c h hb hA hi hx (by omega) (by omega) hg) (by simp)
    | false =>
      rw [h3] at hg
      obtain ⟨H, hH⟩ := l23 r (pre ++ [x]) (bs.set x.toNat true) (by simpa using hb) (by simp [hp])
      refine ⟨H, ?_⟩
      simp only [seenL, h1, h2, h3, Bool.false_eq_true, if_false]
      refine iter_normal (r23d h hb hA hi hx (by omega) (by omega) hg) ?_
      simpa using hH
end
def validL (A : List Int) : Bool := decide (A.length ≤ 6) && seenL A.length A [false, false, false, false, false, false]
theorem call23 (A : List Int) (hA : A.length ≤ 1000) : call Try.cfg 23 [Is A] [] = some (B (validL A), []) := by
  refine call_step ?_
  by_cases h6 : A.length ≤ 6
  · cases hl : loopOf 0 Try.f23 with
    | none => cases hl
    | some a =>
      obtain ⟨H, hH⟩ := l23 (A := A) hl h6 A [] [false, false, false, false, false, false] rfl rfl
      cases hl
      simp only [st23, Is, Bs, List.map_cons, List.map_nil, List.length_nil, Int.natCast_zero] at hH
      have hd : decide (A.length ≤ 6) = true := by simpa using h6
      cases hv : seenL A.length A [false, false, false, false, false, false] with
      | true =>
        rw [hv, if_pos rfl] at hH
        simp -implicitDefEqProofs (disch := omega) only [stepA, bodyA, Try.cfgO, Try.sh23, Try.func23, Try.f23, push_cast, ↓dstAt_zero, ↓dstAt_succ, ↓arun_skip, ↓arun_region, ↓arun_seq, ↓arun_cond, ↓arun_block, ↓arun_loop, ↓arun_exit, ↓arun_ret, aops_nil, aops_cons, aops_cons_guard, ↓putA_some, ↓putA_none, ↓aop_move, ↓aop_assign, ↓aop_pick, ↓aop_alloc, ↓aop_box, ↓aop_build, ↓aop_buildSlice, ↓aop_load, ↓aop_store, ↓aop_nilCheck, ↓aop_binOp, ↓aop_unOp, ↓aop_convert, ↓aop_makeSlice, ↓aop_fieldAddr, ↓aop_field, ↓aop_indexAddr, ↓aop_index, ↓aop_lookup, ↓aop_mapUpdate, ↓aop_insert, ↓aop_extract, ↓aop_callB, ↓aop_callF, ↓aop_callT, ↓aop_makeFunc, ↓aop_makeMap, ↓aop_slice, ↓aevs_nil, ↓aevs_cons, ↓evP_nil, ↓evP_cons, ↓aevO_none, ↓aevO_some, ↓reduceIte, reduceCtorEq, Nat.reduceEqDiff, Nat.reduceAdd, Nat.reduceLT, Nat.reduceSub, Nat.reduceMul, Nat.reduceLeDiff, if_true, if_false, if_pos, if_neg, hH, validL, hv, hd]
      | false =>
        rw [hv, if_neg (by simp)] at hH
        simp -implicitDefEqProofs (disch := omega) only [stepA, bodyA, Try.cfgO, Try.sh23, Try.func23, Try.f23, push_cast, ↓dstAt_zero, ↓dstAt_succ, ↓arun_skip, ↓arun_region, ↓arun_seq, ↓arun_cond, ↓arun_block, ↓arun_loop, ↓arun_exit, ↓arun_ret, aops_nil, aops_cons, aops_cons_guard, ↓putA_some, ↓putA_none, ↓aop_move, ↓aop_assign, ↓aop_pick, ↓aop_alloc, ↓aop_box, ↓aop_build, ↓aop_buildSlice, ↓aop_load, ↓aop_store, ↓aop_nilCheck, ↓aop_binOp, ↓aop_unOp, ↓aop_convert, ↓aop_makeSlice, ↓aop_fieldAddr, ↓aop_field, ↓aop_indexAddr, ↓aop_index, ↓aop_lookup, ↓aop_mapUpdate, ↓aop_insert, ↓aop_extract, ↓aop_callB, ↓aop_callF, ↓aop_callT, ↓aop_makeFunc, ↓aop_makeMap, ↓aop_slice, ↓aevs_nil, ↓aevs_cons, ↓evP_nil, ↓evP_cons, ↓aevO_none, ↓aevO_some, ↓reduceIte, reduceCtorEq, Nat.reduceEqDiff, Nat.reduceAdd, Nat.reduceLT, Nat.reduceSub, Nat.reduceMul, Nat.reduceLeDiff, if_true, if_false, if_pos, if_neg, hH, validL, hv, hd]
  · have hd : decide (A.length ≤ 6) = false := by simpa using h6
    simp -implicitDefEqProofs (disch := omega) only [stepA, bodyA, Try.cfgO, Try.sh23, Try.func23, Try.f23, push_cast, ↓dstAt_zero, ↓dstAt_succ, ↓arun_skip, ↓arun_region, ↓arun_seq, ↓arun_cond, ↓arun_block, ↓arun_loop, ↓arun_exit, ↓arun_ret, aops_nil, aops_cons, aops_cons_guard, ↓putA_some, ↓putA_none, ↓aop_move, ↓aop_assign, ↓aop_pick, ↓aop_alloc, ↓aop_box, ↓aop_build, ↓aop_buildSlice, ↓aop_load, ↓aop_store, ↓aop_nilCheck, ↓aop_binOp, ↓aop_unOp, ↓aop_convert, ↓aop_makeSlice, ↓aop_fieldAddr, ↓aop_field, ↓aop_indexAddr, ↓aop_index, ↓aop_lookup, ↓aop_mapUpdate, ↓aop_insert, ↓aop_extract, ↓aop_callB, ↓aop_callF, ↓aop_callT, ↓aop_makeFunc, ↓aop_makeMap, ↓aop_slice, ↓aevs_nil, ↓aevs_cons, ↓evP_nil, ↓evP_cons, ↓aevO_none, ↓aevO_some, ↓reduceIte, reduceCtorEq, Nat.reduceEqDiff, Nat.reduceAdd, Nat.reduceLT, Nat.reduceSub, Nat.reduceMul, Nat.reduceLeDiff, if_true, if_false, if_pos, if_neg, validL, hd, Bool.false_and]
end Go.Proofs
