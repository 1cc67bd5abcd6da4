/- ref.Cycles. -/
import Derived.Test.YtdodfimekcoclaaF26d
set_option linter.unusedVariables false
set_option linter.unusedSimpArgs false
set_option linter.unusedSectionVars false
namespace Go.Proofs
open Go.AI
set_option maxRecDepth 20000
def in27 (A : List Int) (i : Nat) (out : List (List Int)) (bs : List Bool) (c : List Int) (k : Int) : St :=
  ([(0, Is A), (4, growR 1 out.length), (5, .ms 2 0 0 A.length 1), (6, I i), (7, growR 3 c.length), (8, I k)],
   [.cells true 0 [], .cells true out.length (out.map Is), .cells true 0 (Bs bs), .cells true c.length (c.map I)])
section
variable {a : Code} (h : loopOf 2 Try.f27 = some a) {A : List Int} (hv : validL A = true) {i : Nat} {out : List (List Int)} {bs : List Bool} (hb : bs.length = A.length) {c : List Int} (hc : c.length ≤ 6) {k : Int} (hk : 0 ≤ k) (hk' : k < A.length)
include h hv hb hc hk hk'
theorem i27b (hs : bs[k.toNat]? = some true) : roundA Try.cfg 27 iter (call Try.cfg) 2 a (in27 A i out bs c k) = some (.exit 2, [(0, Is A), (4, growR 1 out.length), (5, .ms 2 0 0 A.length 1), (6, I i), (7, growR 3 c.length)],
   [.cells true 0 [], .cells true out.length (out.map Is), .cells true 0 (Bs bs), .cells true c.length (c.map I)]) := by
  cases h
  have h6 := valid_len hv
  simp -implicitDefEqProofs (maxSteps := 1000000) (disch := omega) only [push_cast, ↓dstAt_zero, ↓dstAt_succ, ↓arun_skip, ↓arun_region, ↓arun_seq, ↓arun_cond, ↓arun_block, ↓arun_loop, ↓arun_exit, ↓arun_ret, aops_nil, aops_cons, aops_cons_guard, ↓putA_some, ↓putA_none, ↓aop_move, ↓aop_assign, ↓aop_pick, ↓aop_alloc, ↓aop_box, ↓aop_build, ↓aop_buildSlice, ↓aop_load, ↓aop_store, ↓aop_nilCheck, ↓aop_binOp, ↓aop_unOp, ↓aop_convert, ↓aop_makeSlice, ↓aop_fieldAddr, ↓aop_field, ↓aop_indexAddr, ↓aop_index, ↓aop_lookup, ↓aop_mapUpdate, ↓aop_insert, ↓aop_extract, ↓aop_callB, ↓aop_callF, ↓aop_callT, ↓aop_makeFunc, ↓aop_makeMap, ↓aop_slice, ↓aevs_nil, ↓aevs_cons, ↓evP_nil, ↓evP_cons, ↓aevO_none, ↓aevO_some, ↓reduceIte, reduceCtorEq, Nat.reduceEqDiff, Nat.reduceAdd, Nat.reduceLT, Nat.reduceSub, Nat.reduceMul, Nat.reduceLeDiff, if_true, if_false, if_pos, if_neg, in27, hs]
theorem i27a (hs : bs[k.toNat]? = some false) : roundA Try.cfg 27 iter (call Try.cfg) 2 a (in27 A i out bs c k) = some (.normal, in27 A i out (bs.set k.toNat true) (c ++ [k]) (A.getD k.toNat 0)) := by
  cases h
  have h6 := valid_len hv
  have hx : A[k.toNat]? = some (A.getD k.toNat 0) := by
    have : k.toNat < A.length := by omega
    simp [this]
  generalize A.getD k.toNat 0 = x at *
  cases c with
  | nil =>
    simp -implicitDefEqProofs (maxSteps := 1000000) (disch := omega) only [push_cast, ↓dstAt_zero, ↓dstAt_succ, ↓arun_skip, ↓arun_region, ↓arun_seq, ↓arun_cond, ↓arun_block, ↓arun_loop, ↓arun_exit, ↓arun_ret, aops_nil, aops_cons, aops_cons_guard, ↓putA_some, ↓putA_none, ↓aop_move, ↓aop_assign, ↓aop_pick, ↓aop_alloc, ↓aop_box, ↓aop_build, ↓aop_buildSlice, ↓aop_load, ↓aop_store, ↓aop_nilCheck, ↓aop_binOp, ↓aop_unOp, ↓aop_convert, ↓aop_makeSlice, ↓aop_fieldAddr, ↓aop_field, ↓aop_indexAddr, ↓aop_index, ↓aop_lookup, ↓aop_mapUpdate, ↓aop_insert, ↓aop_extract, ↓aop_callB, ↓aop_callF, ↓aop_callT, ↓aop_makeFunc, ↓aop_makeMap, ↓aop_slice, ↓aevs_nil, ↓aevs_cons, ↓evP_nil, ↓evP_cons, ↓aevO_none, ↓aevO_some, ↓reduceIte, reduceCtorEq, Nat.reduceEqDiff, Nat.reduceAdd, Nat.reduceLT, Nat.reduceSub, Nat.reduceMul, Nat.reduceLeDiff, if_true, if_false, if_pos, if_neg, in27, hs, hx, growR_zero]
    try rfl
  | cons y c =>
    have hc' : c.length ≤ 5 := by simpa using hc
    simp -implicitDefEqProofs (maxSteps := 1000000) (disch := omega) only [push_cast, ↓dstAt_zero, ↓dstAt_succ, ↓arun_skip, ↓arun_region, ↓arun_seq, ↓arun_cond, ↓arun_block, ↓arun_loop, ↓arun_exit, ↓arun_ret, aops_nil, aops_cons, aops_cons_guard, ↓putA_some, ↓putA_none, ↓aop_move, ↓aop_assign, ↓aop_pick, ↓aop_alloc, ↓aop_box, ↓aop_build, ↓aop_buildSlice, ↓aop_load, ↓aop_store, ↓aop_nilCheck, ↓aop_binOp, ↓aop_unOp, ↓aop_convert, ↓aop_makeSlice, ↓aop_fieldAddr, ↓aop_field, ↓aop_indexAddr, ↓aop_index, ↓aop_lookup, ↓aop_mapUpdate, ↓aop_insert, ↓aop_extract, ↓aop_callB, ↓aop_callF, ↓aop_callT, ↓aop_makeFunc, ↓aop_makeMap, ↓aop_slice, ↓aevs_nil, ↓aevs_cons, ↓evP_nil, ↓evP_cons, ↓aevO_none, ↓aevO_some, ↓reduceIte, reduceCtorEq, Nat.reduceEqDiff, Nat.reduceAdd, Nat.reduceLT, Nat.reduceSub, Nat.reduceMul, Nat.reduceLeDiff, if_true, if_false, if_pos, if_neg, in27, hs, hx, growR_succ, Nat.min_self, List.take_length]
end
def out27 (A : List Int) (i : Nat) (out : List (List Int)) (q : List Bool × List Int) : St :=
  ([(0, Is A), (4, growR 1 out.length), (5, .ms 2 0 0 A.length 1), (6, I i), (7, growR 3 q.2.length)],
   [.cells true 0 [], .cells true out.length (out.map Is), .cells true 0 (Bs q.1), .cells true q.2.length (q.2.map I)])
theorem inner27 {a : Code} (h : loopOf 2 Try.f27 = some a) {A : List Int} (hv : validL A = true) {i : Nat} {out : List (List Int)} : ∀ (f : Nat) (bs : List Bool) (c : List Int) (k : Int), bs.length = A.length → c.length + bs.count false ≤ 6 → bs.count false ≤ f → 0 ≤ k → k < A.length →
    iter (roundA Try.cfg 27 iter (call Try.cfg) 2 a) (in27 A i out bs c k) = some (.exit 2, out27 A i out (cyc A (f + 1) bs c k))
  | f, bs, c, k, hb, hc, hf, hk, hk' => by
    have hj : k.toNat < bs.length := by omega
    have hg : bs[k.toNat]? = some (bs.getD k.toNat false) := by simp [hj]
    cases hs : bs.getD k.toNat false with
    | true =>
      rw [hs] at hg
      rw [cyc, hs, if_pos rfl]
      exact iter_last (i27b h hv hb (by omega) hk hk' hg) (by simp)
    | false =>
      rw [hs] at hg
      have hcnt := count_set hg
      have hr := valid_range hv (i := k.toNat) (by omega)
      rw [cyc, hs, if_neg (by simp)]
      refine iter_normal (i27a h hv hb (by omega) hk hk' hg) ?_
      obtain ⟨f', rfl⟩ : ∃ f', f = f' + 1 := ⟨f - 1, by omega⟩
      exact inner27 h hv f' (bs.set k.toNat true) (c ++ [k]) (A.getD k.toNat 0) (by simpa using hb) (by simp; omega) (by omega) hr.1 hr.2
def st27 (A : List Int) (i : Nat) (out : List (List Int)) (bs : List Bool) : St :=
  ([(0, Is A), (4, growR 1 out.length), (5, .ms 2 0 0 A.length 1), (6, I i)],
   [.cells true 0 [], .cells true out.length (out.map Is), .cells true 0 (Bs bs)])
section
variable {a : Code} (h : loopOf 0 Try.f27 = some a) {A : List Int} (hv : validL A = true) {i : Nat} {out : List (List Int)} {bs : List Bool} (hb : bs.length = A.length) (ho : out.length ≤ 6) (hi : i < A.length)
include h hv hb ho hi
theorem o27 (hcnt : bs.count false ≤ 6) (q : List Bool × List Int) (hq : q = cyc A 7 bs [] i) (hl : q.2.length ≤ 7) : roundA Try.cfg 27 iter (call Try.cfg) 0 a (st27 A i out bs) = some (.normal, st27 A (i + 1) (if q.2 = [] then out else out ++ [q.2]) q.1) := by
  have h6 := valid_len hv
  cases h2 : loopOf 2 Try.f27 with
  | none => cases h2
  | some a2 =>
    have hi := inner27 h2 hv (i := i) (out := out) 6 bs [] i hb (by simpa using hcnt) hcnt (by omega) (by omega)
    cases h
    cases h2
    rw [← hq] at hi
    obtain ⟨bs', c'⟩ := q
    simp only [in27, out27, List.length_nil, List.map_nil, growR_zero, Is, Bs] at hi
    cases c' with
    | nil =>
      simp only [if_true]
      cases out with
      | nil =>
        simp only [List.length_nil, List.map_nil, List.length_cons, growR_zero, growR_succ] at hi
        simp -implicitDefEqProofs (maxSteps := 1000000) (disch := omega) only [push_cast, ↓dstAt_zero, ↓dstAt_succ, ↓arun_skip, ↓arun_region, ↓arun_seq, ↓arun_cond, ↓arun_block, ↓arun_loop, ↓arun_exit, ↓arun_ret, aops_nil, aops_cons, aops_cons_guard, ↓putA_some, ↓putA_none, ↓aop_move, ↓aop_assign, ↓aop_pick, ↓aop_alloc, ↓aop_box, ↓aop_build, ↓aop_buildSlice, ↓aop_load, ↓aop_store, ↓aop_nilCheck, ↓aop_binOp, ↓aop_unOp, ↓aop_convert, ↓aop_makeSlice, ↓aop_fieldAddr, ↓aop_field, ↓aop_indexAddr, ↓aop_index, ↓aop_lookup, ↓aop_mapUpdate, ↓aop_insert, ↓aop_extract, ↓aop_callB, ↓aop_callF, ↓aop_callT, ↓aop_makeFunc, ↓aop_makeMap, ↓aop_slice, ↓aevs_nil, ↓aevs_cons, ↓evP_nil, ↓evP_cons, ↓aevO_none, ↓aevO_some, ↓reduceIte, reduceCtorEq, Nat.reduceEqDiff, Nat.reduceAdd, Nat.reduceLT, Nat.reduceSub, Nat.reduceMul, Nat.reduceLeDiff, if_true, if_false, if_pos, if_neg, st27, under_growR, hi, List.length_nil, growR_zero, growR_succ, List.length_cons]
        try rfl
      | cons y out =>
        have ho' : out.length ≤ 5 := by simpa using ho
        simp only [List.length_nil, List.map_nil, List.length_cons, growR_zero, growR_succ] at hi
        simp -implicitDefEqProofs (maxSteps := 1000000) (disch := omega) only [push_cast, ↓dstAt_zero, ↓dstAt_succ, ↓arun_skip, ↓arun_region, ↓arun_seq, ↓arun_cond, ↓arun_block, ↓arun_loop, ↓arun_exit, ↓arun_ret, aops_nil, aops_cons, aops_cons_guard, ↓putA_some, ↓putA_none, ↓aop_move, ↓aop_assign, ↓aop_pick, ↓aop_alloc, ↓aop_box, ↓aop_build, ↓aop_buildSlice, ↓aop_load, ↓aop_store, ↓aop_nilCheck, ↓aop_binOp, ↓aop_unOp, ↓aop_convert, ↓aop_makeSlice, ↓aop_fieldAddr, ↓aop_field, ↓aop_indexAddr, ↓aop_index, ↓aop_lookup, ↓aop_mapUpdate, ↓aop_insert, ↓aop_extract, ↓aop_callB, ↓aop_callF, ↓aop_callT, ↓aop_makeFunc, ↓aop_makeMap, ↓aop_slice, ↓aevs_nil, ↓aevs_cons, ↓evP_nil, ↓evP_cons, ↓aevO_none, ↓aevO_some, ↓reduceIte, reduceCtorEq, Nat.reduceEqDiff, Nat.reduceAdd, Nat.reduceLT, Nat.reduceSub, Nat.reduceMul, Nat.reduceLeDiff, if_true, if_false, if_pos, if_neg, st27, under_growR, hi, List.length_nil, growR_zero, growR_succ, List.length_cons]
        try rfl
    | cons x c' =>
      simp only [List.cons_ne_nil, if_false]
      have hl' : c'.length ≤ 6 := by simpa using hl
      cases out with
      | nil =>
        simp only [List.length_nil, List.map_nil, List.length_cons, growR_zero, growR_succ] at hi
        simp -implicitDefEqProofs (maxSteps := 1000000) (disch := omega) only [push_cast, ↓dstAt_zero, ↓dstAt_succ, ↓arun_skip, ↓arun_region, ↓arun_seq, ↓arun_cond, ↓arun_block, ↓arun_loop, ↓arun_exit, ↓arun_ret, aops_nil, aops_cons, aops_cons_guard, ↓putA_some, ↓putA_none, ↓aop_move, ↓aop_assign, ↓aop_pick, ↓aop_alloc, ↓aop_box, ↓aop_build, ↓aop_buildSlice, ↓aop_load, ↓aop_store, ↓aop_nilCheck, ↓aop_binOp, ↓aop_unOp, ↓aop_convert, ↓aop_makeSlice, ↓aop_fieldAddr, ↓aop_field, ↓aop_indexAddr, ↓aop_index, ↓aop_lookup, ↓aop_mapUpdate, ↓aop_insert, ↓aop_extract, ↓aop_callB, ↓aop_callF, ↓aop_callT, ↓aop_makeFunc, ↓aop_makeMap, ↓aop_slice, ↓aevs_nil, ↓aevs_cons, ↓evP_nil, ↓evP_cons, ↓aevO_none, ↓aevO_some, ↓reduceIte, reduceCtorEq, Nat.reduceEqDiff, Nat.reduceAdd, Nat.reduceLT, Nat.reduceSub, Nat.reduceMul, Nat.reduceLeDiff, if_true, if_false, if_pos, if_neg, st27, under_growR, hi, List.length_nil, growR_zero, growR_succ, List.length_cons]
        simp only [take_map_cons, List.take_length, underL_app, underL_Is, underL_cons, underL_nil, under_sl, Bool.and_self, if_true, obind_some]
        simp only [List.map_cons, List.map_append, List.map_nil, Is, List.length_cons, List.cons_append, List.length_append, List.length_nil, Nat.zero_add, Nat.add_assoc]
        try rfl
      | cons y out =>
        have ho' : out.length ≤ 5 := by simpa using ho
        simp only [List.length_nil, List.map_nil, List.length_cons, growR_zero, growR_succ] at hi
        simp -implicitDefEqProofs (maxSteps := 1000000) (disch := omega) only [push_cast, ↓dstAt_zero, ↓dstAt_succ, ↓arun_skip, ↓arun_region, ↓arun_seq, ↓arun_cond, ↓arun_block, ↓arun_loop, ↓arun_exit, ↓arun_ret, aops_nil, aops_cons, aops_cons_guard, ↓putA_some, ↓putA_none, ↓aop_move, ↓aop_assign, ↓aop_pick, ↓aop_alloc, ↓aop_box, ↓aop_build, ↓aop_buildSlice, ↓aop_load, ↓aop_store, ↓aop_nilCheck, ↓aop_binOp, ↓aop_unOp, ↓aop_convert, ↓aop_makeSlice, ↓aop_fieldAddr, ↓aop_field, ↓aop_indexAddr, ↓aop_index, ↓aop_lookup, ↓aop_mapUpdate, ↓aop_insert, ↓aop_extract, ↓aop_callB, ↓aop_callF, ↓aop_callT, ↓aop_makeFunc, ↓aop_makeMap, ↓aop_slice, ↓aevs_nil, ↓aevs_cons, ↓evP_nil, ↓evP_cons, ↓aevO_none, ↓aevO_some, ↓reduceIte, reduceCtorEq, Nat.reduceEqDiff, Nat.reduceAdd, Nat.reduceLT, Nat.reduceSub, Nat.reduceMul, Nat.reduceLeDiff, if_true, if_false, if_pos, if_neg, st27, under_growR, hi, List.length_nil, growR_zero, growR_succ, List.length_cons]
        simp only [take_map_cons, List.take_length, underL_app, underL_Is, underL_cons, underL_nil, under_sl, Bool.and_self, if_true, obind_some]
        simp only [List.map_cons, List.map_append, List.map_nil, Is, List.length_cons, List.cons_append, List.length_append, List.length_nil, Nat.zero_add, Nat.add_assoc]
        try rfl
end
theorem o27c {a : Code} (h : loopOf 0 Try.f27 = some a) {A : List Int} (hv : validL A = true) {out : List (List Int)} {bs : List Bool} (ho : out.length ≤ 6) : roundA Try.cfg 27 iter (call Try.cfg) 0 a (st27 A A.length out bs) = some (.exit 0, [(4, growR 1 out.length)], [.cells true 0 [], .cells true out.length (out.map Is), .cells true 0 (Bs bs)]) := by
  cases h
  have h6 := valid_len hv
  simp -implicitDefEqProofs (maxSteps := 1000000) (disch := omega) only [push_cast, ↓dstAt_zero, ↓dstAt_succ, ↓arun_skip, ↓arun_region, ↓arun_seq, ↓arun_cond, ↓arun_block, ↓arun_loop, ↓arun_exit, ↓arun_ret, aops_nil, aops_cons, aops_cons_guard, ↓putA_some, ↓putA_none, ↓aop_move, ↓aop_assign, ↓aop_pick, ↓aop_alloc, ↓aop_box, ↓aop_build, ↓aop_buildSlice, ↓aop_load, ↓aop_store, ↓aop_nilCheck, ↓aop_binOp, ↓aop_unOp, ↓aop_convert, ↓aop_makeSlice, ↓aop_fieldAddr, ↓aop_field, ↓aop_indexAddr, ↓aop_index, ↓aop_lookup, ↓aop_mapUpdate, ↓aop_insert, ↓aop_extract, ↓aop_callB, ↓aop_callF, ↓aop_callT, ↓aop_makeFunc, ↓aop_makeMap, ↓aop_slice, ↓aevs_nil, ↓aevs_cons, ↓evP_nil, ↓evP_cons, ↓aevO_none, ↓aevO_some, ↓reduceIte, reduceCtorEq, Nat.reduceEqDiff, Nat.reduceAdd, Nat.reduceLT, Nat.reduceSub, Nat.reduceMul, Nat.reduceLeDiff, if_true, if_false, if_pos, if_neg, st27]
theorem cyc_nil (A : List Int) (f : Nat) (bs : List Bool) (c : List Int) (k : Int) : c ≠ [] → (cyc A f bs c k).2 ≠ [] := by
  induction f generalizing bs c k with
  | zero => intro h; exact h
  | succ f ih =>
    intro h
    rw [cyc]
    split
    · exact h
    · exact ih _ _ _ (by simp)
theorem cycStep_eq (A : List Int) (i : Nat) (s : List (List Int) × List Bool) : cycStep A i s = ((if (cyc A 7 s.2 [] i).2 = [] then s.1 else s.1 ++ [(cyc A 7 s.2 [] i).2]), (cyc A 7 s.2 [] i).1) := by
  unfold cycStep
  cases hs : s.2.getD i false with
  | true =>
    have e : cyc A 7 s.2 [] i = (s.2, []) := by rw [cyc, Int.toNat_natCast, hs, if_pos rfl]
    simp [e]
  | false =>
    have e : (cyc A 7 s.2 [] i).2 ≠ [] := by
      rw [cyc, Int.toNat_natCast, hs, if_neg (by simp)]
      exact cyc_nil _ _ _ _ _ (by simp)
    simp [e]
theorem l27 {a : Code} (h : loopOf 0 Try.f27 = some a) {A : List Int} (hv : validL A = true) : iter (roundA Try.cfg 27 iter (call Try.cfg) 0 a) (st27 A 0 (cycAll A 0).1 (cycAll A 0).2) = some (.exit 0, [(4, growR 1 (cycAll A A.length).1.length)], [.cells true 0 [], .cells true (cycAll A A.length).1.length ((cycAll A A.length).1.map Is), .cells true 0 (Bs (cycAll A A.length).2)]) := by
  have h6 := valid_len hv
  refine iter_run (S := fun i => st27 A i (cycAll A i).1 (cycAll A i).2) (n := A.length) (fun i hi => ?_) (o27c h hv (by have := (cycAll_len A A.length).2; omega)) (by simp) A.length 0 (by omega)
  have hl := cycAll_len A i
  show _ = some (Ex.normal, st27 A (i + 1) (cycStep A i (cycAll A i)).1 (cycStep A i (cycAll A i)).2)
  rw [cycStep_eq]
  exact o27 h hv hl.1 (by omega) hi (count_le (by omega)) _ rfl (by have := cyc_len2 A 7 (cycAll A i).2 [] i; simpa using this)
theorem call27 {A : List Int} (hA : A.length ≤ 1000) : call Try.cfg 27 [Is A] [] = some (repL2 (cycL A), []) := by
  refine call_step ?_
  have v1 := call24u hA
  cases hv : validL A with
  | false =>
    rw [hv] at v1
    have e : cycL A = ([], 1) := by simp [cycL, hv]
    rw [e]
    simp -implicitDefEqProofs (maxSteps := 1000000) (disch := omega) only [stepA, bodyA, Try.cfgO, Try.sh27, Try.sh24, Try.func27, Try.f27, push_cast, ↓dstAt_zero, ↓dstAt_succ, ↓arun_skip, ↓arun_region, ↓arun_seq, ↓arun_cond, ↓arun_block, ↓arun_loop, ↓arun_exit, ↓arun_ret, aops_nil, aops_cons, aops_cons_guard, ↓putA_some, ↓putA_none, ↓aop_move, ↓aop_assign, ↓aop_pick, ↓aop_alloc, ↓aop_box, ↓aop_build, ↓aop_buildSlice, ↓aop_load, ↓aop_store, ↓aop_nilCheck, ↓aop_binOp, ↓aop_unOp, ↓aop_convert, ↓aop_makeSlice, ↓aop_fieldAddr, ↓aop_field, ↓aop_indexAddr, ↓aop_index, ↓aop_lookup, ↓aop_mapUpdate, ↓aop_insert, ↓aop_extract, ↓aop_callB, ↓aop_callF, ↓aop_callT, ↓aop_makeFunc, ↓aop_makeMap, ↓aop_slice, ↓aevs_nil, ↓aevs_cons, ↓evP_nil, ↓evP_cons, ↓aevO_none, ↓aevO_some, ↓reduceIte, reduceCtorEq, Nat.reduceEqDiff, Nat.reduceAdd, Nat.reduceLT, Nat.reduceSub, Nat.reduceMul, Nat.reduceLeDiff, if_true, if_false, if_pos, if_neg, v1, repL2, Iss]
    try rfl
  | true =>
    rw [hv] at v1
    have h6 := valid_len hv
    have e : cycL A = ((cycAll A A.length).1, 0) := by simp [cycL, hv]
    rw [e]
    cases hl : loopOf 0 Try.f27 with
    | none => cases hl
    | some a =>
      have hH := l27 hl hv
      cases hl
      have hlen := (cycAll_len A A.length).2
      have e0 : cycAll A 0 = ([], List.replicate A.length false) := rfl
      simp only [st27, Is, Bs, Int.natCast_zero, e0, List.length_nil, growR_zero, List.map_nil] at hH
      generalize cycAll A A.length = q at *
      obtain ⟨out, bs⟩ := q
      simp only at hH hlen ⊢
      cases out with
      | nil =>
        simp only [List.length_nil, growR_zero, List.map_nil] at hH
        simp -implicitDefEqProofs (maxSteps := 1000000) (disch := omega) only [stepA, bodyA, Try.cfgO, Try.sh27, Try.sh24, Try.func27, Try.f27, push_cast, ↓dstAt_zero, ↓dstAt_succ, ↓arun_skip, ↓arun_region, ↓arun_seq, ↓arun_cond, ↓arun_block, ↓arun_loop, ↓arun_exit, ↓arun_ret, aops_nil, aops_cons, aops_cons_guard, ↓putA_some, ↓putA_none, ↓aop_move, ↓aop_assign, ↓aop_pick, ↓aop_alloc, ↓aop_box, ↓aop_build, ↓aop_buildSlice, ↓aop_load, ↓aop_store, ↓aop_nilCheck, ↓aop_binOp, ↓aop_unOp, ↓aop_convert, ↓aop_makeSlice, ↓aop_fieldAddr, ↓aop_field, ↓aop_indexAddr, ↓aop_index, ↓aop_lookup, ↓aop_mapUpdate, ↓aop_insert, ↓aop_extract, ↓aop_callB, ↓aop_callF, ↓aop_callT, ↓aop_makeFunc, ↓aop_makeMap, ↓aop_slice, ↓aevs_nil, ↓aevs_cons, ↓evP_nil, ↓evP_cons, ↓aevO_none, ↓aevO_some, ↓reduceIte, reduceCtorEq, Nat.reduceEqDiff, Nat.reduceAdd, Nat.reduceLT, Nat.reduceSub, Nat.reduceMul, Nat.reduceLeDiff, if_true, if_false, if_pos, if_neg, v1, hH, repL2, Iss]
        try rfl
      | cons y out =>
        have hlen' : out.length < 6 := by simp at hlen; omega
        simp only [List.length_cons, growR_succ] at hH
        simp -implicitDefEqProofs (maxSteps := 1000000) (disch := omega) only [stepA, bodyA, Try.cfgO, Try.sh27, Try.sh24, Try.func27, Try.f27, push_cast, ↓dstAt_zero, ↓dstAt_succ, ↓arun_skip, ↓arun_region, ↓arun_seq, ↓arun_cond, ↓arun_block, ↓arun_loop, ↓arun_exit, ↓arun_ret, aops_nil, aops_cons, aops_cons_guard, ↓putA_some, ↓putA_none, ↓aop_move, ↓aop_assign, ↓aop_pick, ↓aop_alloc, ↓aop_box, ↓aop_build, ↓aop_buildSlice, ↓aop_load, ↓aop_store, ↓aop_nilCheck, ↓aop_binOp, ↓aop_unOp, ↓aop_convert, ↓aop_makeSlice, ↓aop_fieldAddr, ↓aop_field, ↓aop_indexAddr, ↓aop_index, ↓aop_lookup, ↓aop_mapUpdate, ↓aop_insert, ↓aop_extract, ↓aop_callB, ↓aop_callF, ↓aop_callT, ↓aop_makeFunc, ↓aop_makeMap, ↓aop_slice, ↓aevs_nil, ↓aevs_cons, ↓evP_nil, ↓evP_cons, ↓aevO_none, ↓aevO_some, ↓reduceIte, reduceCtorEq, Nat.reduceEqDiff, Nat.reduceAdd, Nat.reduceLT, Nat.reduceSub, Nat.reduceMul, Nat.reduceLeDiff, if_true, if_false, if_pos, if_neg, v1, hH, repL2, Iss, take_map_cons]
        try rfl
end Go.Proofs
