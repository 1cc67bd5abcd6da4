/- Cycles: the outer loop, the function. -/
import Derived.Test.YtdodfimekcoclaaF26c
set_option linter.unusedVariables false
set_option linter.unusedSimpArgs false
set_option linter.unusedSectionVars false
namespace Go.Proofs
open Go.AI
set_option maxRecDepth 20000
theorem cyc_len1 (A : List Int) : ∀ (f : Nat) (bs : List Bool) (c : List Int) (k : Int), (cyc A f bs c k).1.length = bs.length
  | 0, bs, c, k => rfl
  | f + 1, bs, c, k => by
    rw [cyc]
    split
    · rfl
    · rw [cyc_len1]; simp
theorem cyc_len2 (A : List Int) : ∀ (f : Nat) (bs : List Bool) (c : List Int) (k : Int), (cyc A f bs c k).2.length ≤ c.length + f
  | 0, bs, c, k => by simp [cyc]
  | f + 1, bs, c, k => by
    rw [cyc]
    split
    · simp
    · have := cyc_len2 A f (bs.set k.toNat true) (c ++ [k]) (A.getD k.toNat 0)
      simp at this ⊢
      omega
/-- One step of the outer loop. -/
def cycStep (A : List Int) (i : Nat) (s : List (List Int) × List Bool) : List (List Int) × List Bool :=
  if s.2.getD i false then s else (s.1 ++ [(cyc A 7 s.2 [] i).2], (cyc A 7 s.2 [] i).1)
def cycAll (A : List Int) : Nat → List (List Int) × List Bool
  | 0 => ([], List.replicate A.length false)
  | i + 1 => cycStep A i (cycAll A i)
theorem cycAll_len (A : List Int) : ∀ i, (cycAll A i).2.length = A.length ∧ (cycAll A i).1.length ≤ i
  | 0 => by simp [cycAll]
  | i + 1 => by
    have h := cycAll_len A i
    simp only [cycAll, cycStep]
    split
    · exact ⟨h.1, by omega⟩
    · refine ⟨?_, ?_⟩
      · show (cyc A 7 _ [] _).1.length = _
        rw [cyc_len1]; exact h.1
      · simp; omega
def cycL (A : List Int) : List (List Int) × Int := if validL A then ((cycAll A A.length).1, 0) else ([], 1)
def repL2 (r : List (List Int) × Int) : AV := .tu [Iss r.1, I r.2]
theorem count_le {bs : List Bool} {n : Nat} (h : bs.length ≤ n) : bs.count false ≤ n := Nat.le_trans List.count_le_length h
theorem o26c {a : Code} (h : loopOf 0 Try.f26 = some a) {A : List Int} (hv : validL A = true) {out : List (List Int)} {bs : List Bool} (ho : out.length ≤ 6) : roundA Try.cfg 26 iter (call Try.cfg) 0 a (st26 A A.length out bs) = some (.exit 0, [(4, growR 1 out.length)], [.cells true 0 [], .cells true out.length (out.map Is), .cells true 0 (Bs bs)]) := by
  cases h
  have h6 := valid_len hv
  simp -implicitDefEqProofs (maxSteps := 1000000) (disch := omega) only [push_cast, ↓dstAt_zero, ↓dstAt_succ, ↓arun_skip, ↓arun_region, ↓arun_seq, ↓arun_cond, ↓arun_block, ↓arun_loop, ↓arun_exit, ↓arun_ret, aops_nil, aops_cons, aops_cons_guard, ↓putA_some, ↓putA_none, ↓aop_move, ↓aop_assign, ↓aop_pick, ↓aop_alloc, ↓aop_box, ↓aop_build, ↓aop_buildSlice, ↓aop_load, ↓aop_store, ↓aop_nilCheck, ↓aop_binOp, ↓aop_unOp, ↓aop_convert, ↓aop_makeSlice, ↓aop_fieldAddr, ↓aop_field, ↓aop_indexAddr, ↓aop_index, ↓aop_lookup, ↓aop_mapUpdate, ↓aop_insert, ↓aop_extract, ↓aop_callB, ↓aop_callF, ↓aop_callT, ↓aop_makeFunc, ↓aop_makeMap, ↓aop_slice, ↓aevs_nil, ↓aevs_cons, ↓evP_nil, ↓evP_cons, ↓aevO_none, ↓aevO_some, ↓reduceIte, reduceCtorEq, Nat.reduceEqDiff, Nat.reduceAdd, Nat.reduceLT, Nat.reduceSub, Nat.reduceMul, Nat.reduceLeDiff, if_true, if_false, if_pos, if_neg, st26]
theorem l26 {a : Code} (h : loopOf 0 Try.f26 = some a) {A : List Int} (hv : validL A = true) : iter (roundA Try.cfg 26 iter (call Try.cfg) 0 a) (st26 A 0 (cycAll A 0).1 (cycAll A 0).2) = some (.exit 0, [(4, growR 1 (cycAll A A.length).1.length)], [.cells true 0 [], .cells true (cycAll A A.length).1.length ((cycAll A A.length).1.map Is), .cells true 0 (Bs (cycAll A A.length).2)]) := by
  have h6 := valid_len hv
  refine iter_run (S := fun i => st26 A i (cycAll A i).1 (cycAll A i).2) (n := A.length) (fun i hi => ?_) (o26c h hv (by have := (cycAll_len A A.length).2; omega)) (by simp) A.length 0 (by omega)
  have hl := cycAll_len A i
  have hg : (cycAll A i).2[i]? = some ((cycAll A i).2.getD i false) := by
    have : i < (cycAll A i).2.length := by omega
    simp [this]
  show _ = some (Ex.normal, st26 A (i + 1) (cycStep A i (cycAll A i)).1 (cycStep A i (cycAll A i)).2)
  cases hs : (cycAll A i).2.getD i false with
  | true =>
    rw [hs] at hg
    simp only [cycStep, hs, if_true]
    exact o26b h hv hl.1 (by omega) hi hg
  | false =>
    rw [hs] at hg
    simp only [cycStep, hs, Bool.false_eq_true, if_false]
    exact o26a h hv hl.1 (by omega) hi hg (count_le (by omega)) _ rfl (by have := cyc_len2 A 7 (cycAll A i).2 [] i; simpa using this)
theorem call26 {A : List Int} (hA : A.length ≤ 1000) : call Try.cfg 26 [Is A] [] = some (repL2 (cycL A), []) := by
  refine call_step ?_
  have v1 := call23u hA
  cases hv : validL A with
  | false =>
    rw [hv] at v1
    have e : cycL A = ([], 1) := by simp [cycL, hv]
    rw [e]
    simp -implicitDefEqProofs (maxSteps := 1000000) (disch := omega) only [stepA, bodyA, Try.cfgO, Try.sh26, Try.sh23, Try.func26, Try.f26, push_cast, ↓dstAt_zero, ↓dstAt_succ, ↓arun_skip, ↓arun_region, ↓arun_seq, ↓arun_cond, ↓arun_block, ↓arun_loop, ↓arun_exit, ↓arun_ret, aops_nil, aops_cons, aops_cons_guard, ↓putA_some, ↓putA_none, ↓aop_move, ↓aop_assign, ↓aop_pick, ↓aop_alloc, ↓aop_box, ↓aop_build, ↓aop_buildSlice, ↓aop_load, ↓aop_store, ↓aop_nilCheck, ↓aop_binOp, ↓aop_unOp, ↓aop_convert, ↓aop_makeSlice, ↓aop_fieldAddr, ↓aop_field, ↓aop_indexAddr, ↓aop_index, ↓aop_lookup, ↓aop_mapUpdate, ↓aop_insert, ↓aop_extract, ↓aop_callB, ↓aop_callF, ↓aop_callT, ↓aop_makeFunc, ↓aop_makeMap, ↓aop_slice, ↓aevs_nil, ↓aevs_cons, ↓evP_nil, ↓evP_cons, ↓aevO_none, ↓aevO_some, ↓reduceIte, reduceCtorEq, Nat.reduceEqDiff, Nat.reduceAdd, Nat.reduceLT, Nat.reduceSub, Nat.reduceMul, Nat.reduceLeDiff, if_true, if_false, if_pos, if_neg, v1, repL2, Iss]
    try rfl
  | true =>
    rw [hv] at v1
    have h6 := valid_len hv
    have e : cycL A = ((cycAll A A.length).1, 0) := by simp [cycL, hv]
    rw [e]
    cases hl : loopOf 0 Try.f26 with
    | none => cases hl
    | some a =>
      have hH := l26 hl hv
      cases hl
      have hlen := (cycAll_len A A.length).2
      have e0 : cycAll A 0 = ([], List.replicate A.length false) := rfl
      simp only [st26, Is, Bs, Int.natCast_zero, e0, List.length_nil, growR_zero, List.map_nil] at hH
      generalize cycAll A A.length = q at *
      obtain ⟨out, bs⟩ := q
      simp only at hH hlen ⊢
      cases out with
      | nil =>
        simp only [List.length_nil, growR_zero, List.map_nil] at hH
        simp -implicitDefEqProofs (maxSteps := 1000000) (disch := omega) only [stepA, bodyA, Try.cfgO, Try.sh26, Try.sh23, Try.func26, Try.f26, push_cast, ↓dstAt_zero, ↓dstAt_succ, ↓arun_skip, ↓arun_region, ↓arun_seq, ↓arun_cond, ↓arun_block, ↓arun_loop, ↓arun_exit, ↓arun_ret, aops_nil, aops_cons, aops_cons_guard, ↓putA_some, ↓putA_none, ↓aop_move, ↓aop_assign, ↓aop_pick, ↓aop_alloc, ↓aop_box, ↓aop_build, ↓aop_buildSlice, ↓aop_load, ↓aop_store, ↓aop_nilCheck, ↓aop_binOp, ↓aop_unOp, ↓aop_convert, ↓aop_makeSlice, ↓aop_fieldAddr, ↓aop_field, ↓aop_indexAddr, ↓aop_index, ↓aop_lookup, ↓aop_mapUpdate, ↓aop_insert, ↓aop_extract, ↓aop_callB, ↓aop_callF, ↓aop_callT, ↓aop_makeFunc, ↓aop_makeMap, ↓aop_slice, ↓aevs_nil, ↓aevs_cons, ↓evP_nil, ↓evP_cons, ↓aevO_none, ↓aevO_some, ↓reduceIte, reduceCtorEq, Nat.reduceEqDiff, Nat.reduceAdd, Nat.reduceLT, Nat.reduceSub, Nat.reduceMul, Nat.reduceLeDiff, if_true, if_false, if_pos, if_neg, v1, hH, repL2, Iss]
        try rfl
      | cons y out =>
        have hlen' : out.length < 6 := by simp at hlen; omega
        simp only [List.length_cons, growR_succ] at hH
        simp -implicitDefEqProofs (maxSteps := 1000000) (disch := omega) only [stepA, bodyA, Try.cfgO, Try.sh26, Try.sh23, Try.func26, Try.f26, push_cast, ↓dstAt_zero, ↓dstAt_succ, ↓arun_skip, ↓arun_region, ↓arun_seq, ↓arun_cond, ↓arun_block, ↓arun_loop, ↓arun_exit, ↓arun_ret, aops_nil, aops_cons, aops_cons_guard, ↓putA_some, ↓putA_none, ↓aop_move, ↓aop_assign, ↓aop_pick, ↓aop_alloc, ↓aop_box, ↓aop_build, ↓aop_buildSlice, ↓aop_load, ↓aop_store, ↓aop_nilCheck, ↓aop_binOp, ↓aop_unOp, ↓aop_convert, ↓aop_makeSlice, ↓aop_fieldAddr, ↓aop_field, ↓aop_indexAddr, ↓aop_index, ↓aop_lookup, ↓aop_mapUpdate, ↓aop_insert, ↓aop_extract, ↓aop_callB, ↓aop_callF, ↓aop_callT, ↓aop_makeFunc, ↓aop_makeMap, ↓aop_slice, ↓aevs_nil, ↓aevs_cons, ↓evP_nil, ↓evP_cons, ↓aevO_none, ↓aevO_some, ↓reduceIte, reduceCtorEq, Nat.reduceEqDiff, Nat.reduceAdd, Nat.reduceLT, Nat.reduceSub, Nat.reduceMul, Nat.reduceLeDiff, if_true, if_false, if_pos, if_neg, v1, hH, repL2, Iss, take_map_cons]
        try rfl
end Go.Proofs
