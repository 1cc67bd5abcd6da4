/- Texts of one proof, joined: Sort5, Sort6, Sort7, Sort8, Sort9, Sorta, Sortb, AiStage, Sortc, Sortd, F9, F9b, F26, F26b, F26c, F26d, F7, F27, F25. Conditions: none of its own; each part names what it shows. -/
import Derived.Test.YtdodfimekcoclaaG2
/- slices.partition, partitionEqual: the scans. (printed by tools/sort5.py) -/
set_option linter.unusedVariables false
set_option linter.unusedSimpArgs false
set_option linter.unusedSectionVars false
namespace Go.Proofs
open Go.AI
set_option maxRecDepth 20000
set_option maxHeartbeats 1000000
section
variable {α : Type} {en : α → AV} (hE : El en) {c : α → α → Int} {F : FuncId} (hF : Try.cfg.shared F = false) (hc : ∀ x y, call Try.cfg F [en x, en y] [] = some (.v (.int .i64 (c x y)), [])) {H : Heap} {b ver n : Nat} (hb : b < H.length)
def s58 (en : α → AV) (F : FuncId) (H : Heap) (b ver n : Nat) (l : List α) (A i j : Nat) : St := ([(0, .ms b ver 0 n 1), (1, I A), (4, .fn F []), (11, I i), (12, I j)], hs en H b ver l)
def s59 (en : α → AV) (F : FuncId) (H : Heap) (b ver n : Nat) (l : List α) (A i j : Nat) : St := ([(0, .ms b ver 0 n 1), (1, I A), (4, .fn F []), (12, I i), (13, I j)], hs en H b ver l)
include hE hF hc hb
section
variable {a : Code} (h : loopOf 2 Try.f58 = some a) {l : List α} {A i j : Nat} (hl : l.length = n) (hn : n ≤ 1000000) (hj : j < n) {p : α} (hp : l[A]? = some p)
include h hl hn hj hp
theorem r58_2a (hij : i ≤ j) {x : α} (hx : l[i]? = some x) (hq : ¬ c p x < 0) : roundA Try.cfg 58 iter (call Try.cfg) 2 a (s58 en F H b ver n l A i j) = some (.normal, s58 en F H b ver n l A (i + 1) j) := by
  cases h
  have h1 := lt_of_get hp
  simp -implicitDefEqProofs (maxSteps := 1000000) (disch := omega) only [push_cast, ↓dstAt_zero, ↓dstAt_succ, ↓arun_skip, ↓arun_region, ↓arun_seq, ↓arun_cond, ↓arun_block, ↓arun_loop, ↓arun_exit, ↓arun_ret, aops_nil, aops_cons, aops_cons_guard, ↓putA_some, ↓putA_none, ↓aop_move, ↓aop_assign, ↓aop_pick, ↓aop_alloc, ↓aop_box, ↓aop_build, ↓aop_buildSlice, ↓aop_load, ↓aop_store, ↓aop_nilCheck, ↓aop_binOp, ↓aop_unOp, ↓aop_convert, ↓aop_makeSlice, ↓aop_fieldAddr, ↓aop_field, ↓aop_indexAddr, ↓aop_index, ↓aop_lookup, ↓aop_mapUpdate, ↓aop_insert, ↓aop_extract, ↓aop_callB, ↓aop_callF, ↓aop_callT, ↓aop_makeFunc, ↓aop_makeMap, ↓aop_slice, ↓aevs_nil, ↓aevs_cons, ↓evP_nil, ↓evP_cons, ↓aevO_none, ↓aevO_some, ↓reduceIte, reduceCtorEq, Nat.reduceEqDiff, Nat.reduceAdd, Nat.reduceLT, Nat.reduceSub, Nat.reduceMul, Nat.reduceLeDiff, if_true, if_false, if_pos, if_neg, s58, hs_get, ↓closeA_en hE, hF, hc, tn1, Int.add_sub_cancel, hx, hp]
theorem r58_2b (hij : i ≤ j) {x : α} (hx : l[i]? = some x) (hq : c p x < 0) : roundA Try.cfg 58 iter (call Try.cfg) 2 a (s58 en F H b ver n l A i j) = some (.exit 2, s58 en F H b ver n l A i j) := by
  cases h
  have h1 := lt_of_get hp
  simp -implicitDefEqProofs (maxSteps := 1000000) (disch := omega) only [push_cast, ↓dstAt_zero, ↓dstAt_succ, ↓arun_skip, ↓arun_region, ↓arun_seq, ↓arun_cond, ↓arun_block, ↓arun_loop, ↓arun_exit, ↓arun_ret, aops_nil, aops_cons, aops_cons_guard, ↓putA_some, ↓putA_none, ↓aop_move, ↓aop_assign, ↓aop_pick, ↓aop_alloc, ↓aop_box, ↓aop_build, ↓aop_buildSlice, ↓aop_load, ↓aop_store, ↓aop_nilCheck, ↓aop_binOp, ↓aop_unOp, ↓aop_convert, ↓aop_makeSlice, ↓aop_fieldAddr, ↓aop_field, ↓aop_indexAddr, ↓aop_index, ↓aop_lookup, ↓aop_mapUpdate, ↓aop_insert, ↓aop_extract, ↓aop_callB, ↓aop_callF, ↓aop_callT, ↓aop_makeFunc, ↓aop_makeMap, ↓aop_slice, ↓aevs_nil, ↓aevs_cons, ↓evP_nil, ↓evP_cons, ↓aevO_none, ↓aevO_some, ↓reduceIte, reduceCtorEq, Nat.reduceEqDiff, Nat.reduceAdd, Nat.reduceLT, Nat.reduceSub, Nat.reduceMul, Nat.reduceLeDiff, if_true, if_false, if_pos, if_neg, s58, hs_get, ↓closeA_en hE, hF, hc, tn1, Int.add_sub_cancel, hx, hp]
theorem r58_2c (hij : ¬ i ≤ j) : roundA Try.cfg 58 iter (call Try.cfg) 2 a (s58 en F H b ver n l A i j) = some (.exit 2, s58 en F H b ver n l A i j) := by
  cases h
  simp -implicitDefEqProofs (maxSteps := 1000000) (disch := omega) only [push_cast, ↓dstAt_zero, ↓dstAt_succ, ↓arun_skip, ↓arun_region, ↓arun_seq, ↓arun_cond, ↓arun_block, ↓arun_loop, ↓arun_exit, ↓arun_ret, aops_nil, aops_cons, aops_cons_guard, ↓putA_some, ↓putA_none, ↓aop_move, ↓aop_assign, ↓aop_pick, ↓aop_alloc, ↓aop_box, ↓aop_build, ↓aop_buildSlice, ↓aop_load, ↓aop_store, ↓aop_nilCheck, ↓aop_binOp, ↓aop_unOp, ↓aop_convert, ↓aop_makeSlice, ↓aop_fieldAddr, ↓aop_field, ↓aop_indexAddr, ↓aop_index, ↓aop_lookup, ↓aop_mapUpdate, ↓aop_insert, ↓aop_extract, ↓aop_callB, ↓aop_callF, ↓aop_callT, ↓aop_makeFunc, ↓aop_makeMap, ↓aop_slice, ↓aevs_nil, ↓aevs_cons, ↓evP_nil, ↓evP_cons, ↓aevO_none, ↓aevO_some, ↓reduceIte, reduceCtorEq, Nat.reduceEqDiff, Nat.reduceAdd, Nat.reduceLT, Nat.reduceSub, Nat.reduceMul, Nat.reduceLeDiff, if_true, if_false, if_pos, if_neg, s58, hs_get, ↓closeA_en hE, hF, hc, tn1, Int.add_sub_cancel]
theorem up58_2 : ∀ (d i : Nat), i + d = j + 1 → ∃ i', iter (roundA Try.cfg 58 iter (call Try.cfg) 2 a) (s58 en F H b ver n l A i j) = some (.exit 2, s58 en F H b ver n l A i' j) ∧ i ≤ i' ∧ i' ≤ j + 1 ∧ (∀ q x, i ≤ q → q < i' → l[q]? = some x → ¬ c p x < 0) ∧ (∀ x, i' ≤ j → l[i']? = some x → c p x < 0)
  | 0, i, hd => ⟨i, iter_last (r58_2c hE hF hc hb h hl hn hj hp (by omega)) (by simp), Nat.le_refl _, by omega, fun q x h1 h2 => by omega, fun x h1 => by omega⟩
  | d + 1, i, hd => by
    have hx : l[i]? = some l[i] := List.getElem?_eq_getElem (by omega)
    generalize l[i] = x at hx
    by_cases hq : ¬ c p x < 0
    · obtain ⟨i', h1, h2, h3, h4, h5⟩ := up58_2 d (i + 1) (by omega)
      refine ⟨i', iter_normal (r58_2a hE hF hc hb h hl hn hj hp (by omega) hx hq) h1, by omega, h3, fun q y g1 g2 g3 => ?_, h5⟩
      by_cases e : q = i
      · rw [e, hx] at g3
        cases g3
        exact hq
      · exact h4 q y (by omega) g2 g3
    · refine ⟨i, iter_last (r58_2b hE hF hc hb h hl hn hj hp (by omega) hx (Decidable.not_not.1 hq)) (by simp), Nat.le_refl _, by omega, fun q x h1 h2 => by omega, fun y h1 h2 => ?_⟩
      rw [hx] at h2
      cases h2
      exact (Decidable.not_not.1 hq)
end
section
variable {a : Code} (h : loopOf 4 Try.f58 = some a) {l : List α} {A i j : Nat} (hl : l.length = n) (hn : n ≤ 1000000) (hj : j < n) {p : α} (hp : l[A]? = some p)
include h hl hn hj hp
theorem r58_4a {k : Nat} (hk : k + 1 = j) (hij : i ≤ k + 1) {x : α} (hx : l[k + 1]? = some x) (hq : c p x < 0) : roundA Try.cfg 58 iter (call Try.cfg) 4 a (s58 en F H b ver n l A i (k + 1)) = some (.normal, s58 en F H b ver n l A i k) := by
  cases h
  have h1 := lt_of_get hp
  simp -implicitDefEqProofs (maxSteps := 1000000) (disch := omega) only [push_cast, ↓dstAt_zero, ↓dstAt_succ, ↓arun_skip, ↓arun_region, ↓arun_seq, ↓arun_cond, ↓arun_block, ↓arun_loop, ↓arun_exit, ↓arun_ret, aops_nil, aops_cons, aops_cons_guard, ↓putA_some, ↓putA_none, ↓aop_move, ↓aop_assign, ↓aop_pick, ↓aop_alloc, ↓aop_box, ↓aop_build, ↓aop_buildSlice, ↓aop_load, ↓aop_store, ↓aop_nilCheck, ↓aop_binOp, ↓aop_unOp, ↓aop_convert, ↓aop_makeSlice, ↓aop_fieldAddr, ↓aop_field, ↓aop_indexAddr, ↓aop_index, ↓aop_lookup, ↓aop_mapUpdate, ↓aop_insert, ↓aop_extract, ↓aop_callB, ↓aop_callF, ↓aop_callT, ↓aop_makeFunc, ↓aop_makeMap, ↓aop_slice, ↓aevs_nil, ↓aevs_cons, ↓evP_nil, ↓evP_cons, ↓aevO_none, ↓aevO_some, ↓reduceIte, reduceCtorEq, Nat.reduceEqDiff, Nat.reduceAdd, Nat.reduceLT, Nat.reduceSub, Nat.reduceMul, Nat.reduceLeDiff, if_true, if_false, if_pos, if_neg, s58, hs_get, ↓closeA_en hE, hF, hc, tn1, Int.add_sub_cancel, hx, hp]
theorem r58_4b (hij : i ≤ j) {x : α} (hx : l[j]? = some x) (hq : ¬ c p x < 0) : roundA Try.cfg 58 iter (call Try.cfg) 4 a (s58 en F H b ver n l A i j) = some (.exit 4, s58 en F H b ver n l A i j) := by
  cases h
  have h1 := lt_of_get hp
  simp -implicitDefEqProofs (maxSteps := 1000000) (disch := omega) only [push_cast, ↓dstAt_zero, ↓dstAt_succ, ↓arun_skip, ↓arun_region, ↓arun_seq, ↓arun_cond, ↓arun_block, ↓arun_loop, ↓arun_exit, ↓arun_ret, aops_nil, aops_cons, aops_cons_guard, ↓putA_some, ↓putA_none, ↓aop_move, ↓aop_assign, ↓aop_pick, ↓aop_alloc, ↓aop_box, ↓aop_build, ↓aop_buildSlice, ↓aop_load, ↓aop_store, ↓aop_nilCheck, ↓aop_binOp, ↓aop_unOp, ↓aop_convert, ↓aop_makeSlice, ↓aop_fieldAddr, ↓aop_field, ↓aop_indexAddr, ↓aop_index, ↓aop_lookup, ↓aop_mapUpdate, ↓aop_insert, ↓aop_extract, ↓aop_callB, ↓aop_callF, ↓aop_callT, ↓aop_makeFunc, ↓aop_makeMap, ↓aop_slice, ↓aevs_nil, ↓aevs_cons, ↓evP_nil, ↓evP_cons, ↓aevO_none, ↓aevO_some, ↓reduceIte, reduceCtorEq, Nat.reduceEqDiff, Nat.reduceAdd, Nat.reduceLT, Nat.reduceSub, Nat.reduceMul, Nat.reduceLeDiff, if_true, if_false, if_pos, if_neg, s58, hs_get, ↓closeA_en hE, hF, hc, tn1, Int.add_sub_cancel, hx, hp]
theorem r58_4c (hij : ¬ i ≤ j) : roundA Try.cfg 58 iter (call Try.cfg) 4 a (s58 en F H b ver n l A i j) = some (.exit 4, s58 en F H b ver n l A i j) := by
  cases h
  simp -implicitDefEqProofs (maxSteps := 1000000) (disch := omega) only [push_cast, ↓dstAt_zero, ↓dstAt_succ, ↓arun_skip, ↓arun_region, ↓arun_seq, ↓arun_cond, ↓arun_block, ↓arun_loop, ↓arun_exit, ↓arun_ret, aops_nil, aops_cons, aops_cons_guard, ↓putA_some, ↓putA_none, ↓aop_move, ↓aop_assign, ↓aop_pick, ↓aop_alloc, ↓aop_box, ↓aop_build, ↓aop_buildSlice, ↓aop_load, ↓aop_store, ↓aop_nilCheck, ↓aop_binOp, ↓aop_unOp, ↓aop_convert, ↓aop_makeSlice, ↓aop_fieldAddr, ↓aop_field, ↓aop_indexAddr, ↓aop_index, ↓aop_lookup, ↓aop_mapUpdate, ↓aop_insert, ↓aop_extract, ↓aop_callB, ↓aop_callF, ↓aop_callT, ↓aop_makeFunc, ↓aop_makeMap, ↓aop_slice, ↓aevs_nil, ↓aevs_cons, ↓evP_nil, ↓evP_cons, ↓aevO_none, ↓aevO_some, ↓reduceIte, reduceCtorEq, Nat.reduceEqDiff, Nat.reduceAdd, Nat.reduceLT, Nat.reduceSub, Nat.reduceMul, Nat.reduceLeDiff, if_true, if_false, if_pos, if_neg, s58, hs_get, ↓closeA_en hE, hF, hc, tn1, Int.add_sub_cancel]
omit hj in
theorem down58_4 (hi : 1 ≤ i) : ∀ (d j : Nat), j + 1 = i + d → j < n → ∃ j', iter (roundA Try.cfg 58 iter (call Try.cfg) 4 a) (s58 en F H b ver n l A i j) = some (.exit 4, s58 en F H b ver n l A i j') ∧ j' ≤ j ∧ i ≤ j' + 1 ∧ (∀ q x, j' < q → q ≤ j → l[q]? = some x → c p x < 0) ∧ (∀ x, i ≤ j' → l[j']? = some x → ¬ c p x < 0)
  | 0, j, hd, hj => ⟨j, iter_last (r58_4c hE hF hc hb h hl hn hj hp (by omega)) (by simp), Nat.le_refl _, by omega, fun q x h1 h2 => by omega, fun x h1 => by omega⟩
  | d + 1, j, hd, hj => by
    have hx : l[j]? = some l[j] := List.getElem?_eq_getElem (by omega)
    generalize l[j] = x at hx
    by_cases hq : c p x < 0
    · obtain ⟨k, rfl⟩ : ∃ k, j = k + 1 := ⟨j - 1, by omega⟩
      obtain ⟨j', h1, h2, h3, h4, h5⟩ := down58_4 hi d k (by omega) (by omega)
      refine ⟨j', iter_normal (r58_4a hE hF hc hb h hl hn hj hp rfl (by omega) hx hq) h1, by omega, h3, fun q y g1 g2 g3 => ?_, h5⟩
      by_cases e : q = k + 1
      · rw [e, hx] at g3
        cases g3
        exact hq
      · exact h4 q y g1 (by omega) g3
    · refine ⟨j, iter_last (r58_4b hE hF hc hb h hl hn hj hp (by omega) hx hq) (by simp), Nat.le_refl _, by omega, fun q x h1 h2 => by omega, fun y h1 h2 => ?_⟩
      rw [hx] at h2
      cases h2
      exact hq
end
section
variable {a : Code} (h : loopOf 0 Try.f59 = some a) {l : List α} {A i j : Nat} (hl : l.length = n) (hn : n ≤ 1000000) (hj : j < n) {p : α} (hp : l[A]? = some p)
include h hl hn hj hp
theorem r59_0a (hij : i ≤ j) {x : α} (hx : l[i]? = some x) (hq : c x p < 0) : roundA Try.cfg 59 iter (call Try.cfg) 0 a (s59 en F H b ver n l A i j) = some (.normal, s59 en F H b ver n l A (i + 1) j) := by
  cases h
  have h1 := lt_of_get hp
  simp -implicitDefEqProofs (maxSteps := 1000000) (disch := omega) only [push_cast, ↓dstAt_zero, ↓dstAt_succ, ↓arun_skip, ↓arun_region, ↓arun_seq, ↓arun_cond, ↓arun_block, ↓arun_loop, ↓arun_exit, ↓arun_ret, aops_nil, aops_cons, aops_cons_guard, ↓putA_some, ↓putA_none, ↓aop_move, ↓aop_assign, ↓aop_pick, ↓aop_alloc, ↓aop_box, ↓aop_build, ↓aop_buildSlice, ↓aop_load, ↓aop_store, ↓aop_nilCheck, ↓aop_binOp, ↓aop_unOp, ↓aop_convert, ↓aop_makeSlice, ↓aop_fieldAddr, ↓aop_field, ↓aop_indexAddr, ↓aop_index, ↓aop_lookup, ↓aop_mapUpdate, ↓aop_insert, ↓aop_extract, ↓aop_callB, ↓aop_callF, ↓aop_callT, ↓aop_makeFunc, ↓aop_makeMap, ↓aop_slice, ↓aevs_nil, ↓aevs_cons, ↓evP_nil, ↓evP_cons, ↓aevO_none, ↓aevO_some, ↓reduceIte, reduceCtorEq, Nat.reduceEqDiff, Nat.reduceAdd, Nat.reduceLT, Nat.reduceSub, Nat.reduceMul, Nat.reduceLeDiff, if_true, if_false, if_pos, if_neg, s59, hs_get, ↓closeA_en hE, hF, hc, tn1, Int.add_sub_cancel, hx, hp]
theorem r59_0b (hij : i ≤ j) {x : α} (hx : l[i]? = some x) (hq : ¬ c x p < 0) : roundA Try.cfg 59 iter (call Try.cfg) 0 a (s59 en F H b ver n l A i j) = some (.exit 0, s59 en F H b ver n l A i j) := by
  cases h
  have h1 := lt_of_get hp
  simp -implicitDefEqProofs (maxSteps := 1000000) (disch := omega) only [push_cast, ↓dstAt_zero, ↓dstAt_succ, ↓arun_skip, ↓arun_region, ↓arun_seq, ↓arun_cond, ↓arun_block, ↓arun_loop, ↓arun_exit, ↓arun_ret, aops_nil, aops_cons, aops_cons_guard, ↓putA_some, ↓putA_none, ↓aop_move, ↓aop_assign, ↓aop_pick, ↓aop_alloc, ↓aop_box, ↓aop_build, ↓aop_buildSlice, ↓aop_load, ↓aop_store, ↓aop_nilCheck, ↓aop_binOp, ↓aop_unOp, ↓aop_convert, ↓aop_makeSlice, ↓aop_fieldAddr, ↓aop_field, ↓aop_indexAddr, ↓aop_index, ↓aop_lookup, ↓aop_mapUpdate, ↓aop_insert, ↓aop_extract, ↓aop_callB, ↓aop_callF, ↓aop_callT, ↓aop_makeFunc, ↓aop_makeMap, ↓aop_slice, ↓aevs_nil, ↓aevs_cons, ↓evP_nil, ↓evP_cons, ↓aevO_none, ↓aevO_some, ↓reduceIte, reduceCtorEq, Nat.reduceEqDiff, Nat.reduceAdd, Nat.reduceLT, Nat.reduceSub, Nat.reduceMul, Nat.reduceLeDiff, if_true, if_false, if_pos, if_neg, s59, hs_get, ↓closeA_en hE, hF, hc, tn1, Int.add_sub_cancel, hx, hp]
theorem r59_0c (hij : ¬ i ≤ j) : roundA Try.cfg 59 iter (call Try.cfg) 0 a (s59 en F H b ver n l A i j) = some (.exit 0, s59 en F H b ver n l A i j) := by
  cases h
  simp -implicitDefEqProofs (maxSteps := 1000000) (disch := omega) only [push_cast, ↓dstAt_zero, ↓dstAt_succ, ↓arun_skip, ↓arun_region, ↓arun_seq, ↓arun_cond, ↓arun_block, ↓arun_loop, ↓arun_exit, ↓arun_ret, aops_nil, aops_cons, aops_cons_guard, ↓putA_some, ↓putA_none, ↓aop_move, ↓aop_assign, ↓aop_pick, ↓aop_alloc, ↓aop_box, ↓aop_build, ↓aop_buildSlice, ↓aop_load, ↓aop_store, ↓aop_nilCheck, ↓aop_binOp, ↓aop_unOp, ↓aop_convert, ↓aop_makeSlice, ↓aop_fieldAddr, ↓aop_field, ↓aop_indexAddr, ↓aop_index, ↓aop_lookup, ↓aop_mapUpdate, ↓aop_insert, ↓aop_extract, ↓aop_callB, ↓aop_callF, ↓aop_callT, ↓aop_makeFunc, ↓aop_makeMap, ↓aop_slice, ↓aevs_nil, ↓aevs_cons, ↓evP_nil, ↓evP_cons, ↓aevO_none, ↓aevO_some, ↓reduceIte, reduceCtorEq, Nat.reduceEqDiff, Nat.reduceAdd, Nat.reduceLT, Nat.reduceSub, Nat.reduceMul, Nat.reduceLeDiff, if_true, if_false, if_pos, if_neg, s59, hs_get, ↓closeA_en hE, hF, hc, tn1, Int.add_sub_cancel]
theorem up59_0 : ∀ (d i : Nat), i + d = j + 1 → ∃ i', iter (roundA Try.cfg 59 iter (call Try.cfg) 0 a) (s59 en F H b ver n l A i j) = some (.exit 0, s59 en F H b ver n l A i' j) ∧ i ≤ i' ∧ i' ≤ j + 1 ∧ (∀ q x, i ≤ q → q < i' → l[q]? = some x → c x p < 0) ∧ (∀ x, i' ≤ j → l[i']? = some x → ¬ c x p < 0)
  | 0, i, hd => ⟨i, iter_last (r59_0c hE hF hc hb h hl hn hj hp (by omega)) (by simp), Nat.le_refl _, by omega, fun q x h1 h2 => by omega, fun x h1 => by omega⟩
  | d + 1, i, hd => by
    have hx : l[i]? = some l[i] := List.getElem?_eq_getElem (by omega)
    generalize l[i] = x at hx
    by_cases hq : c x p < 0
    · obtain ⟨i', h1, h2, h3, h4, h5⟩ := up59_0 d (i + 1) (by omega)
      refine ⟨i', iter_normal (r59_0a hE hF hc hb h hl hn hj hp (by omega) hx hq) h1, by omega, h3, fun q y g1 g2 g3 => ?_, h5⟩
      by_cases e : q = i
      · rw [e, hx] at g3
        cases g3
        exact hq
      · exact h4 q y (by omega) g2 g3
    · refine ⟨i, iter_last (r59_0b hE hF hc hb h hl hn hj hp (by omega) hx hq) (by simp), Nat.le_refl _, by omega, fun q x h1 h2 => by omega, fun y h1 h2 => ?_⟩
      rw [hx] at h2
      cases h2
      exact hq
end
section
variable {a : Code} (h : loopOf 2 Try.f59 = some a) {l : List α} {A i j : Nat} (hl : l.length = n) (hn : n ≤ 1000000) (hj : j < n) {p : α} (hp : l[A]? = some p)
include h hl hn hj hp
theorem r59_2a {k : Nat} (hk : k + 1 = j) (hij : i ≤ k + 1) {x : α} (hx : l[k + 1]? = some x) (hq : ¬ c x p < 0) : roundA Try.cfg 59 iter (call Try.cfg) 2 a (s59 en F H b ver n l A i (k + 1)) = some (.normal, s59 en F H b ver n l A i k) := by
  cases h
  have h1 := lt_of_get hp
  simp -implicitDefEqProofs (maxSteps := 1000000) (disch := omega) only [push_cast, ↓dstAt_zero, ↓dstAt_succ, ↓arun_skip, ↓arun_region, ↓arun_seq, ↓arun_cond, ↓arun_block, ↓arun_loop, ↓arun_exit, ↓arun_ret, aops_nil, aops_cons, aops_cons_guard, ↓putA_some, ↓putA_none, ↓aop_move, ↓aop_assign, ↓aop_pick, ↓aop_alloc, ↓aop_box, ↓aop_build, ↓aop_buildSlice, ↓aop_load, ↓aop_store, ↓aop_nilCheck, ↓aop_binOp, ↓aop_unOp, ↓aop_convert, ↓aop_makeSlice, ↓aop_fieldAddr, ↓aop_field, ↓aop_indexAddr, ↓aop_index, ↓aop_lookup, ↓aop_mapUpdate, ↓aop_insert, ↓aop_extract, ↓aop_callB, ↓aop_callF, ↓aop_callT, ↓aop_makeFunc, ↓aop_makeMap, ↓aop_slice, ↓aevs_nil, ↓aevs_cons, ↓evP_nil, ↓evP_cons, ↓aevO_none, ↓aevO_some, ↓reduceIte, reduceCtorEq, Nat.reduceEqDiff, Nat.reduceAdd, Nat.reduceLT, Nat.reduceSub, Nat.reduceMul, Nat.reduceLeDiff, if_true, if_false, if_pos, if_neg, s59, hs_get, ↓closeA_en hE, hF, hc, tn1, Int.add_sub_cancel, hx, hp]
theorem r59_2b (hij : i ≤ j) {x : α} (hx : l[j]? = some x) (hq : c x p < 0) : roundA Try.cfg 59 iter (call Try.cfg) 2 a (s59 en F H b ver n l A i j) = some (.exit 2, s59 en F H b ver n l A i j) := by
  cases h
  have h1 := lt_of_get hp
  simp -implicitDefEqProofs (maxSteps := 1000000) (disch := omega) only [push_cast, ↓dstAt_zero, ↓dstAt_succ, ↓arun_skip, ↓arun_region, ↓arun_seq, ↓arun_cond, ↓arun_block, ↓arun_loop, ↓arun_exit, ↓arun_ret, aops_nil, aops_cons, aops_cons_guard, ↓putA_some, ↓putA_none, ↓aop_move, ↓aop_assign, ↓aop_pick, ↓aop_alloc, ↓aop_box, ↓aop_build, ↓aop_buildSlice, ↓aop_load, ↓aop_store, ↓aop_nilCheck, ↓aop_binOp, ↓aop_unOp, ↓aop_convert, ↓aop_makeSlice, ↓aop_fieldAddr, ↓aop_field, ↓aop_indexAddr, ↓aop_index, ↓aop_lookup, ↓aop_mapUpdate, ↓aop_insert, ↓aop_extract, ↓aop_callB, ↓aop_callF, ↓aop_callT, ↓aop_makeFunc, ↓aop_makeMap, ↓aop_slice, ↓aevs_nil, ↓aevs_cons, ↓evP_nil, ↓evP_cons, ↓aevO_none, ↓aevO_some, ↓reduceIte, reduceCtorEq, Nat.reduceEqDiff, Nat.reduceAdd, Nat.reduceLT, Nat.reduceSub, Nat.reduceMul, Nat.reduceLeDiff, if_true, if_false, if_pos, if_neg, s59, hs_get, ↓closeA_en hE, hF, hc, tn1, Int.add_sub_cancel, hx, hp]
theorem r59_2c (hij : ¬ i ≤ j) : roundA Try.cfg 59 iter (call Try.cfg) 2 a (s59 en F H b ver n l A i j) = some (.exit 2, s59 en F H b ver n l A i j) := by
  cases h
  simp -implicitDefEqProofs (maxSteps := 1000000) (disch := omega) only [push_cast, ↓dstAt_zero, ↓dstAt_succ, ↓arun_skip, ↓arun_region, ↓arun_seq, ↓arun_cond, ↓arun_block, ↓arun_loop, ↓arun_exit, ↓arun_ret, aops_nil, aops_cons, aops_cons_guard, ↓putA_some, ↓putA_none, ↓aop_move, ↓aop_assign, ↓aop_pick, ↓aop_alloc, ↓aop_box, ↓aop_build, ↓aop_buildSlice, ↓aop_load, ↓aop_store, ↓aop_nilCheck, ↓aop_binOp, ↓aop_unOp, ↓aop_convert, ↓aop_makeSlice, ↓aop_fieldAddr, ↓aop_field, ↓aop_indexAddr, ↓aop_index, ↓aop_lookup, ↓aop_mapUpdate, ↓aop_insert, ↓aop_extract, ↓aop_callB, ↓aop_callF, ↓aop_callT, ↓aop_makeFunc, ↓aop_makeMap, ↓aop_slice, ↓aevs_nil, ↓aevs_cons, ↓evP_nil, ↓evP_cons, ↓aevO_none, ↓aevO_some, ↓reduceIte, reduceCtorEq, Nat.reduceEqDiff, Nat.reduceAdd, Nat.reduceLT, Nat.reduceSub, Nat.reduceMul, Nat.reduceLeDiff, if_true, if_false, if_pos, if_neg, s59, hs_get, ↓closeA_en hE, hF, hc, tn1, Int.add_sub_cancel]
omit hj in
theorem down59_2 (hi : 1 ≤ i) : ∀ (d j : Nat), j + 1 = i + d → j < n → ∃ j', iter (roundA Try.cfg 59 iter (call Try.cfg) 2 a) (s59 en F H b ver n l A i j) = some (.exit 2, s59 en F H b ver n l A i j') ∧ j' ≤ j ∧ i ≤ j' + 1 ∧ (∀ q x, j' < q → q ≤ j → l[q]? = some x → ¬ c x p < 0) ∧ (∀ x, i ≤ j' → l[j']? = some x → c x p < 0)
  | 0, j, hd, hj => ⟨j, iter_last (r59_2c hE hF hc hb h hl hn hj hp (by omega)) (by simp), Nat.le_refl _, by omega, fun q x h1 h2 => by omega, fun x h1 => by omega⟩
  | d + 1, j, hd, hj => by
    have hx : l[j]? = some l[j] := List.getElem?_eq_getElem (by omega)
    generalize l[j] = x at hx
    by_cases hq : ¬ c x p < 0
    · obtain ⟨k, rfl⟩ : ∃ k, j = k + 1 := ⟨j - 1, by omega⟩
      obtain ⟨j', h1, h2, h3, h4, h5⟩ := down59_2 hi d k (by omega) (by omega)
      refine ⟨j', iter_normal (r59_2a hE hF hc hb h hl hn hj hp rfl (by omega) hx hq) h1, by omega, h3, fun q y g1 g2 g3 => ?_, h5⟩
      by_cases e : q = k + 1
      · rw [e, hx] at g3
        cases g3
        exact hq
      · exact h4 q y g1 (by omega) g3
    · refine ⟨j, iter_last (r59_2b hE hF hc hb h hl hn hj hp (by omega) hx (Decidable.not_not.1 hq)) (by simp), Nat.le_refl _, by omega, fun q x h1 h2 => by omega, fun y h1 h2 => ?_⟩
      rw [hx] at h2
      cases h2
      exact (Decidable.not_not.1 hq)
end
section
variable {a : Code} (h : loopOf 6 Try.f59 = some a) {l : List α} {A i j : Nat} (hl : l.length = n) (hn : n ≤ 1000000) (hj : j < n) {p : α} (hp : l[A]? = some p)
include h hl hn hj hp
theorem r59_6a (hij : i ≤ j) {x : α} (hx : l[i]? = some x) (hq : c x p < 0) : roundA Try.cfg 59 iter (call Try.cfg) 6 a (s59 en F H b ver n l A i j) = some (.normal, s59 en F H b ver n l A (i + 1) j) := by
  cases h
  have h1 := lt_of_get hp
  simp -implicitDefEqProofs (maxSteps := 1000000) (disch := omega) only [push_cast, ↓dstAt_zero, ↓dstAt_succ, ↓arun_skip, ↓arun_region, ↓arun_seq, ↓arun_cond, ↓arun_block, ↓arun_loop, ↓arun_exit, ↓arun_ret, aops_nil, aops_cons, aops_cons_guard, ↓putA_some, ↓putA_none, ↓aop_move, ↓aop_assign, ↓aop_pick, ↓aop_alloc, ↓aop_box, ↓aop_build, ↓aop_buildSlice, ↓aop_load, ↓aop_store, ↓aop_nilCheck, ↓aop_binOp, ↓aop_unOp, ↓aop_convert, ↓aop_makeSlice, ↓aop_fieldAddr, ↓aop_field, ↓aop_indexAddr, ↓aop_index, ↓aop_lookup, ↓aop_mapUpdate, ↓aop_insert, ↓aop_extract, ↓aop_callB, ↓aop_callF, ↓aop_callT, ↓aop_makeFunc, ↓aop_makeMap, ↓aop_slice, ↓aevs_nil, ↓aevs_cons, ↓evP_nil, ↓evP_cons, ↓aevO_none, ↓aevO_some, ↓reduceIte, reduceCtorEq, Nat.reduceEqDiff, Nat.reduceAdd, Nat.reduceLT, Nat.reduceSub, Nat.reduceMul, Nat.reduceLeDiff, if_true, if_false, if_pos, if_neg, s59, hs_get, ↓closeA_en hE, hF, hc, tn1, Int.add_sub_cancel, hx, hp]
theorem r59_6b (hij : i ≤ j) {x : α} (hx : l[i]? = some x) (hq : ¬ c x p < 0) : roundA Try.cfg 59 iter (call Try.cfg) 6 a (s59 en F H b ver n l A i j) = some (.exit 6, s59 en F H b ver n l A i j) := by
  cases h
  have h1 := lt_of_get hp
  simp -implicitDefEqProofs (maxSteps := 1000000) (disch := omega) only [push_cast, ↓dstAt_zero, ↓dstAt_succ, ↓arun_skip, ↓arun_region, ↓arun_seq, ↓arun_cond, ↓arun_block, ↓arun_loop, ↓arun_exit, ↓arun_ret, aops_nil, aops_cons, aops_cons_guard, ↓putA_some, ↓putA_none, ↓aop_move, ↓aop_assign, ↓aop_pick, ↓aop_alloc, ↓aop_box, ↓aop_build, ↓aop_buildSlice, ↓aop_load, ↓aop_store, ↓aop_nilCheck, ↓aop_binOp, ↓aop_unOp, ↓aop_convert, ↓aop_makeSlice, ↓aop_fieldAddr, ↓aop_field, ↓aop_indexAddr, ↓aop_index, ↓aop_lookup, ↓aop_mapUpdate, ↓aop_insert, ↓aop_extract, ↓aop_callB, ↓aop_callF, ↓aop_callT, ↓aop_makeFunc, ↓aop_makeMap, ↓aop_slice, ↓aevs_nil, ↓aevs_cons, ↓evP_nil, ↓evP_cons, ↓aevO_none, ↓aevO_some, ↓reduceIte, reduceCtorEq, Nat.reduceEqDiff, Nat.reduceAdd, Nat.reduceLT, Nat.reduceSub, Nat.reduceMul, Nat.reduceLeDiff, if_true, if_false, if_pos, if_neg, s59, hs_get, ↓closeA_en hE, hF, hc, tn1, Int.add_sub_cancel, hx, hp]
theorem r59_6c (hij : ¬ i ≤ j) : roundA Try.cfg 59 iter (call Try.cfg) 6 a (s59 en F H b ver n l A i j) = some (.exit 6, s59 en F H b ver n l A i j) := by
  cases h
  simp -implicitDefEqProofs (maxSteps := 1000000) (disch := omega) only [push_cast, ↓dstAt_zero, ↓dstAt_succ, ↓arun_skip, ↓arun_region, ↓arun_seq, ↓arun_cond, ↓arun_block, ↓arun_loop, ↓arun_exit, ↓arun_ret, aops_nil, aops_cons, aops_cons_guard, ↓putA_some, ↓putA_none, ↓aop_move, ↓aop_assign, ↓aop_pick, ↓aop_alloc, ↓aop_box, ↓aop_build, ↓aop_buildSlice, ↓aop_load, ↓aop_store, ↓aop_nilCheck, ↓aop_binOp, ↓aop_unOp, ↓aop_convert, ↓aop_makeSlice, ↓aop_fieldAddr, ↓aop_field, ↓aop_indexAddr, ↓aop_index, ↓aop_lookup, ↓aop_mapUpdate, ↓aop_insert, ↓aop_extract, ↓aop_callB, ↓aop_callF, ↓aop_callT, ↓aop_makeFunc, ↓aop_makeMap, ↓aop_slice, ↓aevs_nil, ↓aevs_cons, ↓evP_nil, ↓evP_cons, ↓aevO_none, ↓aevO_some, ↓reduceIte, reduceCtorEq, Nat.reduceEqDiff, Nat.reduceAdd, Nat.reduceLT, Nat.reduceSub, Nat.reduceMul, Nat.reduceLeDiff, if_true, if_false, if_pos, if_neg, s59, hs_get, ↓closeA_en hE, hF, hc, tn1, Int.add_sub_cancel]
theorem up59_6 : ∀ (d i : Nat), i + d = j + 1 → ∃ i', iter (roundA Try.cfg 59 iter (call Try.cfg) 6 a) (s59 en F H b ver n l A i j) = some (.exit 6, s59 en F H b ver n l A i' j) ∧ i ≤ i' ∧ i' ≤ j + 1 ∧ (∀ q x, i ≤ q → q < i' → l[q]? = some x → c x p < 0) ∧ (∀ x, i' ≤ j → l[i']? = some x → ¬ c x p < 0)
  | 0, i, hd => ⟨i, iter_last (r59_6c hE hF hc hb h hl hn hj hp (by omega)) (by simp), Nat.le_refl _, by omega, fun q x h1 h2 => by omega, fun x h1 => by omega⟩
  | d + 1, i, hd => by
    have hx : l[i]? = some l[i] := List.getElem?_eq_getElem (by omega)
    generalize l[i] = x at hx
    by_cases hq : c x p < 0
    · obtain ⟨i', h1, h2, h3, h4, h5⟩ := up59_6 d (i + 1) (by omega)
      refine ⟨i', iter_normal (r59_6a hE hF hc hb h hl hn hj hp (by omega) hx hq) h1, by omega, h3, fun q y g1 g2 g3 => ?_, h5⟩
      by_cases e : q = i
      · rw [e, hx] at g3
        cases g3
        exact hq
      · exact h4 q y (by omega) g2 g3
    · refine ⟨i, iter_last (r59_6b hE hF hc hb h hl hn hj hp (by omega) hx hq) (by simp), Nat.le_refl _, by omega, fun q x h1 h2 => by omega, fun y h1 h2 => ?_⟩
      rw [hx] at h2
      cases h2
      exact hq
end
section
variable {a : Code} (h : loopOf 8 Try.f59 = some a) {l : List α} {A i j : Nat} (hl : l.length = n) (hn : n ≤ 1000000) (hj : j < n) {p : α} (hp : l[A]? = some p)
include h hl hn hj hp
theorem r59_8a {k : Nat} (hk : k + 1 = j) (hij : i ≤ k + 1) {x : α} (hx : l[k + 1]? = some x) (hq : ¬ c x p < 0) : roundA Try.cfg 59 iter (call Try.cfg) 8 a (s59 en F H b ver n l A i (k + 1)) = some (.normal, s59 en F H b ver n l A i k) := by
  cases h
  have h1 := lt_of_get hp
  simp -implicitDefEqProofs (maxSteps := 1000000) (disch := omega) only [push_cast, ↓dstAt_zero, ↓dstAt_succ, ↓arun_skip, ↓arun_region, ↓arun_seq, ↓arun_cond, ↓arun_block, ↓arun_loop, ↓arun_exit, ↓arun_ret, aops_nil, aops_cons, aops_cons_guard, ↓putA_some, ↓putA_none, ↓aop_move, ↓aop_assign, ↓aop_pick, ↓aop_alloc, ↓aop_box, ↓aop_build, ↓aop_buildSlice, ↓aop_load, ↓aop_store, ↓aop_nilCheck, ↓aop_binOp, ↓aop_unOp, ↓aop_convert, ↓aop_makeSlice, ↓aop_fieldAddr, ↓aop_field, ↓aop_indexAddr, ↓aop_index, ↓aop_lookup, ↓aop_mapUpdate, ↓aop_insert, ↓aop_extract, ↓aop_callB, ↓aop_callF, ↓aop_callT, ↓aop_makeFunc, ↓aop_makeMap, ↓aop_slice, ↓aevs_nil, ↓aevs_cons, ↓evP_nil, ↓evP_cons, ↓aevO_none, ↓aevO_some, ↓reduceIte, reduceCtorEq, Nat.reduceEqDiff, Nat.reduceAdd, Nat.reduceLT, Nat.reduceSub, Nat.reduceMul, Nat.reduceLeDiff, if_true, if_false, if_pos, if_neg, s59, hs_get, ↓closeA_en hE, hF, hc, tn1, Int.add_sub_cancel, hx, hp]
theorem r59_8b (hij : i ≤ j) {x : α} (hx : l[j]? = some x) (hq : c x p < 0) : roundA Try.cfg 59 iter (call Try.cfg) 8 a (s59 en F H b ver n l A i j) = some (.exit 8, s59 en F H b ver n l A i j) := by
  cases h
  have h1 := lt_of_get hp
  simp -implicitDefEqProofs (maxSteps := 1000000) (disch := omega) only [push_cast, ↓dstAt_zero, ↓dstAt_succ, ↓arun_skip, ↓arun_region, ↓arun_seq, ↓arun_cond, ↓arun_block, ↓arun_loop, ↓arun_exit, ↓arun_ret, aops_nil, aops_cons, aops_cons_guard, ↓putA_some, ↓putA_none, ↓aop_move, ↓aop_assign, ↓aop_pick, ↓aop_alloc, ↓aop_box, ↓aop_build, ↓aop_buildSlice, ↓aop_load, ↓aop_store, ↓aop_nilCheck, ↓aop_binOp, ↓aop_unOp, ↓aop_convert, ↓aop_makeSlice, ↓aop_fieldAddr, ↓aop_field, ↓aop_indexAddr, ↓aop_index, ↓aop_lookup, ↓aop_mapUpdate, ↓aop_insert, ↓aop_extract, ↓aop_callB, ↓aop_callF, ↓aop_callT, ↓aop_makeFunc, ↓aop_makeMap, ↓aop_slice, ↓aevs_nil, ↓aevs_cons, ↓evP_nil, ↓evP_cons, ↓aevO_none, ↓aevO_some, ↓reduceIte, reduceCtorEq, Nat.reduceEqDiff, Nat.reduceAdd, Nat.reduceLT, Nat.reduceSub, Nat.reduceMul, Nat.reduceLeDiff, if_true, if_false, if_pos, if_neg, s59, hs_get, ↓closeA_en hE, hF, hc, tn1, Int.add_sub_cancel, hx, hp]
theorem r59_8c (hij : ¬ i ≤ j) : roundA Try.cfg 59 iter (call Try.cfg) 8 a (s59 en F H b ver n l A i j) = some (.exit 8, s59 en F H b ver n l A i j) := by
  cases h
  simp -implicitDefEqProofs (maxSteps := 1000000) (disch := omega) only [push_cast, ↓dstAt_zero, ↓dstAt_succ, ↓arun_skip, ↓arun_region, ↓arun_seq, ↓arun_cond, ↓arun_block, ↓arun_loop, ↓arun_exit, ↓arun_ret, aops_nil, aops_cons, aops_cons_guard, ↓putA_some, ↓putA_none, ↓aop_move, ↓aop_assign, ↓aop_pick, ↓aop_alloc, ↓aop_box, ↓aop_build, ↓aop_buildSlice, ↓aop_load, ↓aop_store, ↓aop_nilCheck, ↓aop_binOp, ↓aop_unOp, ↓aop_convert, ↓aop_makeSlice, ↓aop_fieldAddr, ↓aop_field, ↓aop_indexAddr, ↓aop_index, ↓aop_lookup, ↓aop_mapUpdate, ↓aop_insert, ↓aop_extract, ↓aop_callB, ↓aop_callF, ↓aop_callT, ↓aop_makeFunc, ↓aop_makeMap, ↓aop_slice, ↓aevs_nil, ↓aevs_cons, ↓evP_nil, ↓evP_cons, ↓aevO_none, ↓aevO_some, ↓reduceIte, reduceCtorEq, Nat.reduceEqDiff, Nat.reduceAdd, Nat.reduceLT, Nat.reduceSub, Nat.reduceMul, Nat.reduceLeDiff, if_true, if_false, if_pos, if_neg, s59, hs_get, ↓closeA_en hE, hF, hc, tn1, Int.add_sub_cancel]
omit hj in
theorem down59_8 (hi : 1 ≤ i) : ∀ (d j : Nat), j + 1 = i + d → j < n → ∃ j', iter (roundA Try.cfg 59 iter (call Try.cfg) 8 a) (s59 en F H b ver n l A i j) = some (.exit 8, s59 en F H b ver n l A i j') ∧ j' ≤ j ∧ i ≤ j' + 1 ∧ (∀ q x, j' < q → q ≤ j → l[q]? = some x → ¬ c x p < 0) ∧ (∀ x, i ≤ j' → l[j']? = some x → c x p < 0)
  | 0, j, hd, hj => ⟨j, iter_last (r59_8c hE hF hc hb h hl hn hj hp (by omega)) (by simp), Nat.le_refl _, by omega, fun q x h1 h2 => by omega, fun x h1 => by omega⟩
  | d + 1, j, hd, hj => by
    have hx : l[j]? = some l[j] := List.getElem?_eq_getElem (by omega)
    generalize l[j] = x at hx
    by_cases hq : ¬ c x p < 0
    · obtain ⟨k, rfl⟩ : ∃ k, j = k + 1 := ⟨j - 1, by omega⟩
      obtain ⟨j', h1, h2, h3, h4, h5⟩ := down59_8 hi d k (by omega) (by omega)
      refine ⟨j', iter_normal (r59_8a hE hF hc hb h hl hn hj hp rfl (by omega) hx hq) h1, by omega, h3, fun q y g1 g2 g3 => ?_, h5⟩
      by_cases e : q = k + 1
      · rw [e, hx] at g3
        cases g3
        exact hq
      · exact h4 q y g1 (by omega) g3
    · refine ⟨j, iter_last (r59_8b hE hF hc hb h hl hn hj hp (by omega) hx (Decidable.not_not.1 hq)) (by simp), Nat.le_refl _, by omega, fun q x h1 h2 => by omega, fun y h1 h2 => ?_⟩
      rw [hx] at h2
      cases h2
      exact (Decidable.not_not.1 hq)
end
end
end Go.Proofs

/- slices.partition, partitionEqual. (printed by tools/sort6.py) -/
set_option linter.unusedVariables false
set_option linter.unusedSimpArgs false
set_option linter.unusedSectionVars false
namespace Go.Proofs
open Go.AI
set_option maxRecDepth 20000
set_option maxHeartbeats 1000000
section
variable {α : Type} {en : α → AV} (hE : El en) {c : α → α → Int} {F : FuncId} (hF : Try.cfg.shared F = false) (hc : ∀ x y, call Try.cfg F [en x, en y] [] = some (.v (.int .i64 (c x y)), [])) {H : Heap} {b ver n : Nat} (hb : b < H.length)
include hE hF hc hb
section
variable {a : Code} (h : loopOf 0 Try.f58 = some a) {A : Nat} (hn : n ≤ 1000000)
include h hn
theorem m58a {l : List α} {i j i1 j1 : Nat} (hl : l.length = n) (hi : i1 ≤ n) (hj : j1 < n)
    (gu : ∀ a2, loopOf 2 Try.f58 = some a2 → iter (roundA Try.cfg 58 iter (call Try.cfg) 2 a2) (s58 en F H b ver n l A i j) = some (.exit 2, s58 en F H b ver n l A i1 j))
    (gd : ∀ a2, loopOf 4 Try.f58 = some a2 → iter (roundA Try.cfg 58 iter (call Try.cfg) 4 a2) (s58 en F H b ver n l A i1 j) = some (.exit 4, s58 en F H b ver n l A i1 j1))
    (hij : j1 < i1) : roundA Try.cfg 58 iter (call Try.cfg) 0 a (s58 en F H b ver n l A i j) = some (.exit 0, [(11, I (i1 : Nat))], hs en H b ver l) := by
  cases h2 : loopOf 2 Try.f58 with
  | none => cases h2
  | some a2 =>
    cases h3 : loopOf 4 Try.f58 with
    | none => cases h3
    | some a3 =>
      have g1 := gu a2 h2
      have g2 := gd a3 h3
      cases h
      cases h2
      cases h3
      simp only [s58] at g1 g2
      simp -implicitDefEqProofs (maxSteps := 1000000) (disch := omega) only [push_cast, ↓dstAt_zero, ↓dstAt_succ, ↓arun_skip, ↓arun_region, ↓arun_seq, ↓arun_cond, ↓arun_block, ↓arun_loop, ↓arun_exit, ↓arun_ret, aops_nil, aops_cons, aops_cons_guard, ↓putA_some, ↓putA_none, ↓aop_move, ↓aop_assign, ↓aop_pick, ↓aop_alloc, ↓aop_box, ↓aop_build, ↓aop_buildSlice, ↓aop_load, ↓aop_store, ↓aop_nilCheck, ↓aop_binOp, ↓aop_unOp, ↓aop_convert, ↓aop_makeSlice, ↓aop_fieldAddr, ↓aop_field, ↓aop_indexAddr, ↓aop_index, ↓aop_lookup, ↓aop_mapUpdate, ↓aop_insert, ↓aop_extract, ↓aop_callB, ↓aop_callF, ↓aop_callT, ↓aop_makeFunc, ↓aop_makeMap, ↓aop_slice, ↓aevs_nil, ↓aevs_cons, ↓evP_nil, ↓evP_cons, ↓aevO_none, ↓aevO_some, ↓reduceIte, reduceCtorEq, Nat.reduceEqDiff, Nat.reduceAdd, Nat.reduceLT, Nat.reduceSub, Nat.reduceMul, Nat.reduceLeDiff, if_true, if_false, if_pos, if_neg, s58, g1, g2]
theorem m58b {l : List α} {i j i1 k : Nat} (hl : l.length = n) (hj : k + 1 < n)
    (gu : ∀ a2, loopOf 2 Try.f58 = some a2 → iter (roundA Try.cfg 58 iter (call Try.cfg) 2 a2) (s58 en F H b ver n l A i j) = some (.exit 2, s58 en F H b ver n l A i1 j))
    (gd : ∀ a2, loopOf 4 Try.f58 = some a2 → iter (roundA Try.cfg 58 iter (call Try.cfg) 4 a2) (s58 en F H b ver n l A i1 j) = some (.exit 4, s58 en F H b ver n l A i1 (k + 1)))
    (hij : i1 ≤ k + 1) {x y : α} (hx : l[i1]? = some x) (hy : l[k + 1]? = some y) : roundA Try.cfg 58 iter (call Try.cfg) 0 a (s58 en F H b ver n l A i j) = some (.normal, s58 en F H b ver n (swp l i1 (k + 1) x y) A (i1 + 1) k) := by
  cases h2 : loopOf 2 Try.f58 with
  | none => cases h2
  | some a2 =>
    cases h3 : loopOf 4 Try.f58 with
    | none => cases h3
    | some a3 =>
      have g1 := gu a2 h2
      have g2 := gd a3 h3
      cases h
      cases h2
      cases h3
      simp only [s58, Int.natCast_add, Int.natCast_one] at g1 g2
      simp -implicitDefEqProofs (maxSteps := 1000000) (disch := omega) only [push_cast, ↓dstAt_zero, ↓dstAt_succ, ↓arun_skip, ↓arun_region, ↓arun_seq, ↓arun_cond, ↓arun_block, ↓arun_loop, ↓arun_exit, ↓arun_ret, aops_nil, aops_cons, aops_cons_guard, ↓putA_some, ↓putA_none, ↓aop_move, ↓aop_assign, ↓aop_pick, ↓aop_alloc, ↓aop_box, ↓aop_build, ↓aop_buildSlice, ↓aop_load, ↓aop_store, ↓aop_nilCheck, ↓aop_binOp, ↓aop_unOp, ↓aop_convert, ↓aop_makeSlice, ↓aop_fieldAddr, ↓aop_field, ↓aop_indexAddr, ↓aop_index, ↓aop_lookup, ↓aop_mapUpdate, ↓aop_insert, ↓aop_extract, ↓aop_callB, ↓aop_callF, ↓aop_callT, ↓aop_makeFunc, ↓aop_makeMap, ↓aop_slice, ↓aevs_nil, ↓aevs_cons, ↓evP_nil, ↓evP_cons, ↓aevO_none, ↓aevO_some, ↓reduceIte, reduceCtorEq, Nat.reduceEqDiff, Nat.reduceAdd, Nat.reduceLT, Nat.reduceSub, Nat.reduceMul, Nat.reduceLeDiff, if_true, if_false, if_pos, if_neg, s58, g1, g2, hs_get, hs_set, set_en, ↓hE.cell, ↓hE.flat, tn1, Int.add_sub_cancel, hx, hy, swp]
theorem main58 {B : Nat} (hB : B ≤ n) {p : α} : ∀ (d i j : Nat) (l : List α), l.length = n → i + d = j + 1 → A < i → j < B → l[A]? = some p →
    (∀ q x, A < q → q < i → l[q]? = some x → ¬ c p x < 0) → (∀ q x, j < q → q < B → l[q]? = some x → c p x < 0) →
    ∃ l' m, iter (roundA Try.cfg 58 iter (call Try.cfg) 0 a) (s58 en F H b ver n l A i j) = some (.exit 0, [(11, I ((m + 1) : Nat))], hs en H b ver l') ∧ PermOn (A + 1) B l l' ∧ A ≤ m ∧ m < B ∧
      (∀ q x, A < q → q ≤ m → l'[q]? = some x → ¬ c p x < 0) ∧ (∀ q x, m < q → q < B → l'[q]? = some x → c p x < 0)
  | d, i, j, l, hl, hd, hA, hj, hp, hu, hdn => by
    have ex : ∀ a2, loopOf 2 Try.f58 = some a2 → ∃ i', iter (roundA Try.cfg 58 iter (call Try.cfg) 2 a2) (s58 en F H b ver n l A i j) = some (.exit 2, s58 en F H b ver n l A i' j) ∧ i ≤ i' ∧ i' ≤ j + 1 ∧ (∀ q x, i ≤ q → q < i' → l[q]? = some x → ¬ c p x < 0) ∧ (∀ x, i' ≤ j → l[i']? = some x → c p x < 0) :=
      fun a2 h2 => up58_2 hE hF hc hb h2 hl hn (by omega) hp d i (by omega)
    cases h2 : loopOf 2 Try.f58 with
    | none => cases h2
    | some a2 =>
      obtain ⟨i1, u1, u2, u3, u4, u5⟩ := ex a2 h2
      cases h3 : loopOf 4 Try.f58 with
      | none => cases h3
      | some a3 =>
        obtain ⟨j1, v1, v2, v3, v4, v5⟩ := down58_4 (ver := ver) (i := i1) (A := A) hE hF hc hb h3 hl hn hp (by omega) (j + 1 - i1) j (by omega) (by omega)
        have gu : ∀ a4, loopOf 2 Try.f58 = some a4 → iter (roundA Try.cfg 58 iter (call Try.cfg) 2 a4) (s58 en F H b ver n l A i j) = some (.exit 2, s58 en F H b ver n l A i1 j) := fun a4 h4 => by
          rw [h2] at h4; cases h4; exact u1
        have gd : ∀ a4, loopOf 4 Try.f58 = some a4 → iter (roundA Try.cfg 58 iter (call Try.cfg) 4 a4) (s58 en F H b ver n l A i1 j) = some (.exit 4, s58 en F H b ver n l A i1 j1) := fun a4 h4 => by
          rw [h3] at h4; cases h4; exact v1
        by_cases hij : j1 < i1
        · refine ⟨l, j1, ?_, PermOn.refl _ _ _, by omega, by omega, fun q x q1 q2 q3 => ?_, fun q x q1 q2 q3 => ?_⟩
          · have e : i1 = j1 + 1 := by omega
            have := m58a hE hF hc hb h hn hl (by omega) (by omega) gu gd hij
            try rw [e] at this
            exact iter_last this (by simp)
          · by_cases hq : q < i
            · exact hu q x q1 hq q3
            · exact u4 q x (by omega) (by omega) q3
          · by_cases hq : q ≤ j
            · exact v4 q x q1 hq q3
            · exact hdn q x (by omega) q2 q3
        · obtain ⟨k, rfl⟩ : ∃ k, j1 = k + 1 := ⟨j1 - 1, by omega⟩
          have hx : l[i1]? = some l[i1] := List.getElem?_eq_getElem (by omega)
          have hy : l[k + 1]? = some l[k + 1] := List.getElem?_eq_getElem (by omega)
          generalize l[i1] = x0 at hx
          generalize l[k + 1] = y0 at hy
          have w1 := u5 x0 (by omega) hx
          have w2 := v5 y0 (by omega) hy
          have hne : i1 ≠ k + 1 := fun e => by
            rw [e, hy] at hx
            cases hx
            exact absurd w1 w2
          obtain ⟨l', m, z1, z2, z3, z4, z5, z6⟩ := main58 hB (k + 1 - (i1 + 1)) (i1 + 1) k (swp l i1 (k + 1) x0 y0) (by rw [swp_length]; exact hl) (by omega) (by omega) (by omega)
            (by rw [swp_get hx hy, if_neg (by omega), if_neg (by omega)]; exact hp)
            (fun q x q1 q2 q3 => by
              rw [swp_get hx hy, if_neg (by omega)] at q3
              by_cases e : q = i1
              · rw [if_pos e] at q3
                cases q3
                exact w2
              · rw [if_neg e] at q3
                by_cases hq : q < i
                · exact hu q x q1 hq q3
                · exact u4 q x (by omega) (by omega) q3)
            (fun q x q1 q2 q3 => by
              rw [swp_get hx hy] at q3
              by_cases e : q = k + 1
              · rw [if_pos e] at q3
                cases q3
                exact w1
              · rw [if_neg e, if_neg (by omega)] at q3
                by_cases hq : q ≤ j
                · exact v4 q x (by omega) hq q3
                · exact hdn q x (by omega) q2 q3)
          exact ⟨l', m, iter_normal (m58b hE hF hc hb h hn hl (by omega) gu gd (by omega) hx hy) z1, (swp_on hx hy (by omega) (by omega) (by omega) (by omega)).trans z2, z3, z4, z5, z6⟩
  termination_by d i j => j + 1 - i
end
section
variable {a : Code} (h : loopOf 4 Try.f59 = some a) {A : Nat} (hn : n ≤ 1000000)
include h hn
theorem m59a {l : List α} {i j i1 j1 : Nat} (hl : l.length = n) (hi : i1 ≤ n) (hj : j1 < n)
    (gu : ∀ a2, loopOf 6 Try.f59 = some a2 → iter (roundA Try.cfg 59 iter (call Try.cfg) 6 a2) (s59 en F H b ver n l A i j) = some (.exit 6, s59 en F H b ver n l A i1 j))
    (gd : ∀ a2, loopOf 8 Try.f59 = some a2 → iter (roundA Try.cfg 59 iter (call Try.cfg) 8 a2) (s59 en F H b ver n l A i1 j) = some (.exit 8, s59 en F H b ver n l A i1 j1))
    (hij : j1 < i1) : roundA Try.cfg 59 iter (call Try.cfg) 4 a (s59 en F H b ver n l A i j) = some (.exit 4, [(0, .ms b ver 0 n 1), (1, I A), (13, I (j1 : Nat))], hs en H b ver l) := by
  cases h2 : loopOf 6 Try.f59 with
  | none => cases h2
  | some a2 =>
    cases h3 : loopOf 8 Try.f59 with
    | none => cases h3
    | some a3 =>
      have g1 := gu a2 h2
      have g2 := gd a3 h3
      cases h
      cases h2
      cases h3
      simp only [s59] at g1 g2
      simp -implicitDefEqProofs (maxSteps := 1000000) (disch := omega) only [push_cast, ↓dstAt_zero, ↓dstAt_succ, ↓arun_skip, ↓arun_region, ↓arun_seq, ↓arun_cond, ↓arun_block, ↓arun_loop, ↓arun_exit, ↓arun_ret, aops_nil, aops_cons, aops_cons_guard, ↓putA_some, ↓putA_none, ↓aop_move, ↓aop_assign, ↓aop_pick, ↓aop_alloc, ↓aop_box, ↓aop_build, ↓aop_buildSlice, ↓aop_load, ↓aop_store, ↓aop_nilCheck, ↓aop_binOp, ↓aop_unOp, ↓aop_convert, ↓aop_makeSlice, ↓aop_fieldAddr, ↓aop_field, ↓aop_indexAddr, ↓aop_index, ↓aop_lookup, ↓aop_mapUpdate, ↓aop_insert, ↓aop_extract, ↓aop_callB, ↓aop_callF, ↓aop_callT, ↓aop_makeFunc, ↓aop_makeMap, ↓aop_slice, ↓aevs_nil, ↓aevs_cons, ↓evP_nil, ↓evP_cons, ↓aevO_none, ↓aevO_some, ↓reduceIte, reduceCtorEq, Nat.reduceEqDiff, Nat.reduceAdd, Nat.reduceLT, Nat.reduceSub, Nat.reduceMul, Nat.reduceLeDiff, if_true, if_false, if_pos, if_neg, s59, g1, g2]
theorem m59b {l : List α} {i j i1 k : Nat} (hl : l.length = n) (hj : k + 1 < n)
    (gu : ∀ a2, loopOf 6 Try.f59 = some a2 → iter (roundA Try.cfg 59 iter (call Try.cfg) 6 a2) (s59 en F H b ver n l A i j) = some (.exit 6, s59 en F H b ver n l A i1 j))
    (gd : ∀ a2, loopOf 8 Try.f59 = some a2 → iter (roundA Try.cfg 59 iter (call Try.cfg) 8 a2) (s59 en F H b ver n l A i1 j) = some (.exit 8, s59 en F H b ver n l A i1 (k + 1)))
    (hij : i1 ≤ k + 1) {x y : α} (hx : l[i1]? = some x) (hy : l[k + 1]? = some y) : roundA Try.cfg 59 iter (call Try.cfg) 4 a (s59 en F H b ver n l A i j) = some (.normal, s59 en F H b ver n (swp l i1 (k + 1) x y) A (i1 + 1) k) := by
  cases h2 : loopOf 6 Try.f59 with
  | none => cases h2
  | some a2 =>
    cases h3 : loopOf 8 Try.f59 with
    | none => cases h3
    | some a3 =>
      have g1 := gu a2 h2
      have g2 := gd a3 h3
      cases h
      cases h2
      cases h3
      simp only [s59, Int.natCast_add, Int.natCast_one] at g1 g2
      simp -implicitDefEqProofs (maxSteps := 1000000) (disch := omega) only [push_cast, ↓dstAt_zero, ↓dstAt_succ, ↓arun_skip, ↓arun_region, ↓arun_seq, ↓arun_cond, ↓arun_block, ↓arun_loop, ↓arun_exit, ↓arun_ret, aops_nil, aops_cons, aops_cons_guard, ↓putA_some, ↓putA_none, ↓aop_move, ↓aop_assign, ↓aop_pick, ↓aop_alloc, ↓aop_box, ↓aop_build, ↓aop_buildSlice, ↓aop_load, ↓aop_store, ↓aop_nilCheck, ↓aop_binOp, ↓aop_unOp, ↓aop_convert, ↓aop_makeSlice, ↓aop_fieldAddr, ↓aop_field, ↓aop_indexAddr, ↓aop_index, ↓aop_lookup, ↓aop_mapUpdate, ↓aop_insert, ↓aop_extract, ↓aop_callB, ↓aop_callF, ↓aop_callT, ↓aop_makeFunc, ↓aop_makeMap, ↓aop_slice, ↓aevs_nil, ↓aevs_cons, ↓evP_nil, ↓evP_cons, ↓aevO_none, ↓aevO_some, ↓reduceIte, reduceCtorEq, Nat.reduceEqDiff, Nat.reduceAdd, Nat.reduceLT, Nat.reduceSub, Nat.reduceMul, Nat.reduceLeDiff, if_true, if_false, if_pos, if_neg, s59, g1, g2, hs_get, hs_set, set_en, ↓hE.cell, ↓hE.flat, tn1, Int.add_sub_cancel, hx, hy, swp]
theorem main59 {B : Nat} (hB : B ≤ n) {p : α} : ∀ (d i j : Nat) (l : List α), l.length = n → i + d = j + 1 → A < i → j < B → l[A]? = some p →
    (∀ q x, A < q → q < i → l[q]? = some x → c x p < 0) → (∀ q x, j < q → q < B → l[q]? = some x → ¬ c x p < 0) →
    ∃ l' m, iter (roundA Try.cfg 59 iter (call Try.cfg) 4 a) (s59 en F H b ver n l A i j) = some (.exit 4, [(0, .ms b ver 0 n 1), (1, I A), (13, I (m : Nat))], hs en H b ver l') ∧ PermOn (A + 1) B l l' ∧ A ≤ m ∧ m < B ∧
      (∀ q x, A < q → q ≤ m → l'[q]? = some x → c x p < 0) ∧ (∀ q x, m < q → q < B → l'[q]? = some x → ¬ c x p < 0)
  | d, i, j, l, hl, hd, hA, hj, hp, hu, hdn => by
    have ex : ∀ a2, loopOf 6 Try.f59 = some a2 → ∃ i', iter (roundA Try.cfg 59 iter (call Try.cfg) 6 a2) (s59 en F H b ver n l A i j) = some (.exit 6, s59 en F H b ver n l A i' j) ∧ i ≤ i' ∧ i' ≤ j + 1 ∧ (∀ q x, i ≤ q → q < i' → l[q]? = some x → c x p < 0) ∧ (∀ x, i' ≤ j → l[i']? = some x → ¬ c x p < 0) :=
      fun a2 h2 => up59_6 hE hF hc hb h2 hl hn (by omega) hp d i (by omega)
    cases h2 : loopOf 6 Try.f59 with
    | none => cases h2
    | some a2 =>
      obtain ⟨i1, u1, u2, u3, u4, u5⟩ := ex a2 h2
      cases h3 : loopOf 8 Try.f59 with
      | none => cases h3
      | some a3 =>
        obtain ⟨j1, v1, v2, v3, v4, v5⟩ := down59_8 (ver := ver) (i := i1) (A := A) hE hF hc hb h3 hl hn hp (by omega) (j + 1 - i1) j (by omega) (by omega)
        have gu : ∀ a4, loopOf 6 Try.f59 = some a4 → iter (roundA Try.cfg 59 iter (call Try.cfg) 6 a4) (s59 en F H b ver n l A i j) = some (.exit 6, s59 en F H b ver n l A i1 j) := fun a4 h4 => by
          rw [h2] at h4; cases h4; exact u1
        have gd : ∀ a4, loopOf 8 Try.f59 = some a4 → iter (roundA Try.cfg 59 iter (call Try.cfg) 8 a4) (s59 en F H b ver n l A i1 j) = some (.exit 8, s59 en F H b ver n l A i1 j1) := fun a4 h4 => by
          rw [h3] at h4; cases h4; exact v1
        by_cases hij : j1 < i1
        · refine ⟨l, j1, ?_, PermOn.refl _ _ _, by omega, by omega, fun q x q1 q2 q3 => ?_, fun q x q1 q2 q3 => ?_⟩
          · have e : i1 = j1 + 1 := by omega
            have := m59a hE hF hc hb h hn hl (by omega) (by omega) gu gd hij
            try rw [e] at this
            exact iter_last this (by simp)
          · by_cases hq : q < i
            · exact hu q x q1 hq q3
            · exact u4 q x (by omega) (by omega) q3
          · by_cases hq : q ≤ j
            · exact v4 q x q1 hq q3
            · exact hdn q x (by omega) q2 q3
        · obtain ⟨k, rfl⟩ : ∃ k, j1 = k + 1 := ⟨j1 - 1, by omega⟩
          have hx : l[i1]? = some l[i1] := List.getElem?_eq_getElem (by omega)
          have hy : l[k + 1]? = some l[k + 1] := List.getElem?_eq_getElem (by omega)
          generalize l[i1] = x0 at hx
          generalize l[k + 1] = y0 at hy
          have w1 := u5 x0 (by omega) hx
          have w2 := v5 y0 (by omega) hy
          have hne : i1 ≠ k + 1 := fun e => by
            rw [e, hy] at hx
            cases hx
            exact absurd w2 w1
          obtain ⟨l', m, z1, z2, z3, z4, z5, z6⟩ := main59 hB (k + 1 - (i1 + 1)) (i1 + 1) k (swp l i1 (k + 1) x0 y0) (by rw [swp_length]; exact hl) (by omega) (by omega) (by omega)
            (by rw [swp_get hx hy, if_neg (by omega), if_neg (by omega)]; exact hp)
            (fun q x q1 q2 q3 => by
              rw [swp_get hx hy, if_neg (by omega)] at q3
              by_cases e : q = i1
              · rw [if_pos e] at q3
                cases q3
                exact w2
              · rw [if_neg e] at q3
                by_cases hq : q < i
                · exact hu q x q1 hq q3
                · exact u4 q x (by omega) (by omega) q3)
            (fun q x q1 q2 q3 => by
              rw [swp_get hx hy] at q3
              by_cases e : q = k + 1
              · rw [if_pos e] at q3
                cases q3
                exact w1
              · rw [if_neg e, if_neg (by omega)] at q3
                by_cases hq : q ≤ j
                · exact v4 q x (by omega) hq q3
                · exact hdn q x (by omega) q2 q3)
          exact ⟨l', m, iter_normal (m59b hE hF hc hb h hn hl (by omega) gu gd (by omega) hx hy) z1, (swp_on hx hy (by omega) (by omega) (by omega) (by omega)).trans z2, z3, z4, z5, z6⟩
  termination_by d i j => j + 1 - i
end
end
end Go.Proofs

/- slices.partition, partitionEqual: the functions. -/
set_option linter.unusedVariables false
set_option linter.unusedSimpArgs false
set_option linter.unusedSectionVars false
namespace Go.Proofs
open Go.AI
set_option maxRecDepth 20000
set_option maxHeartbeats 1000000
theorem swp_fst {α : Type} {l : List α} {i j : Nat} {x y : α} (hx : l[i]? = some x) (hy : l[j]? = some y) : (swp l i j x y)[i]? = some y := by
  rw [swp_get hx hy]
  by_cases e : i = j
  · rw [if_pos e]
    rw [e, hy] at hx
    exact hx.symm
  · rw [if_neg e, if_pos rfl]
theorem swp_snd {α : Type} {l : List α} {i j : Nat} {x y : α} (hx : l[i]? = some x) (hy : l[j]? = some y) : (swp l i j x y)[j]? = some x := by
  rw [swp_get hx hy, if_pos rfl]
section
variable {α : Type} {en : α → AV} (hE : El en) {c : α → α → Int} {F : FuncId} (hF : Try.cfg.shared F = false) (hc : ∀ x y, call Try.cfg F [en x, en y] [] = some (.v (.int .i64 (c x y)), [])) {H : Heap} {b ver n : Nat} (hb : b < H.length)
include hE hF hc hb
theorem call58 (hC : Cmp c) {l : List α} {A B pv : Nat} {p : α} (hl : l.length = n) (hn : n ≤ 1000000) (hA : A ≤ pv) (hpv : pv < B) (hB : B ≤ n) (hp : l[pv]? = some p) : ∃ l' m, call Try.cfg 58 [.ms b ver 0 n 1, .v (.int .i64 A), .v (.int .i64 B), .v (.int .i64 pv), .fn F []] (hs en H b ver l) = some (.v (.int .i64 (m : Nat)), hs en H b ver l') ∧ PermOn A B l l' ∧ A < m ∧ m ≤ B ∧
    (∀ q x, A ≤ q → q < m → l'[q]? = some x → ¬ c p x < 0) ∧ (∀ q x, m ≤ q → q < B → l'[q]? = some x → c p x < 0) := by
  cases hlo : loopOf 0 Try.f58 with
  | none => cases hlo
  | some a =>
    obtain ⟨k, rfl⟩ : ∃ k, B = k + 1 := ⟨B - 1, by omega⟩
    have hx : l[A]? = some l[A] := List.getElem?_eq_getElem (by omega)
    generalize l[A] = x0 at hx
    have h1 := swp_fst hx hp
    obtain ⟨l', m, g1, g2, g3, g4, g5, g6⟩ := main58 (ver := ver) (A := A) hE hF hc hb hlo hn hB (k + 1 - (A + 1)) (A + 1) k (swp l A pv x0 p) (by rw [swp_length]; exact hl) (by omega) (by omega) (by omega) h1
      (fun q x q1 q2 => by omega) (fun q x q1 q2 => by omega)
    refine ⟨l', m + 1, call_step ?_, (swp_on hx hp (Nat.le_refl _) (by omega) hA (by omega)).trans (g2.widen (by omega) (Nat.le_refl _)), by omega, by omega, fun q x q1 q2 q3 => ?_, fun q x q1 q2 q3 => g6 q x (by omega) q2 q3⟩
    · cases hlo
      simp only [s58, Int.natCast_add, Int.natCast_one] at g1
      simp -implicitDefEqProofs (maxSteps := 1000000) (disch := omega) only [stepA, bodyA, Try.f58, push_cast, ↓dstAt_zero, ↓dstAt_succ, ↓arun_skip, ↓arun_region, ↓arun_seq, ↓arun_cond, ↓arun_block, ↓arun_loop, ↓arun_exit, ↓arun_ret, aops_nil, aops_cons, aops_cons_guard, ↓putA_some, ↓putA_none, ↓aop_move, ↓aop_assign, ↓aop_pick, ↓aop_alloc, ↓aop_box, ↓aop_build, ↓aop_buildSlice, ↓aop_load, ↓aop_store, ↓aop_nilCheck, ↓aop_binOp, ↓aop_unOp, ↓aop_convert, ↓aop_makeSlice, ↓aop_fieldAddr, ↓aop_field, ↓aop_indexAddr, ↓aop_index, ↓aop_lookup, ↓aop_mapUpdate, ↓aop_insert, ↓aop_extract, ↓aop_callB, ↓aop_callF, ↓aop_callT, ↓aop_makeFunc, ↓aop_makeMap, ↓aop_slice, ↓aevs_nil, ↓aevs_cons, ↓evP_nil, ↓evP_cons, ↓aevO_none, ↓aevO_some, ↓reduceIte, reduceCtorEq, Nat.reduceEqDiff, Nat.reduceAdd, Nat.reduceLT, Nat.reduceSub, Nat.reduceMul, Nat.reduceLeDiff, if_true, if_false, if_pos, if_neg, hs_get, hs_set, set_en, ↓hE.cell, ↓hE.flat, tn1, Int.add_sub_cancel, hx, hp, swp] at *
      simp -implicitDefEqProofs (maxSteps := 1000000) (disch := omega) only [stepA, bodyA, Try.f58, push_cast, ↓dstAt_zero, ↓dstAt_succ, ↓arun_skip, ↓arun_region, ↓arun_seq, ↓arun_cond, ↓arun_block, ↓arun_loop, ↓arun_exit, ↓arun_ret, aops_nil, aops_cons, aops_cons_guard, ↓putA_some, ↓putA_none, ↓aop_move, ↓aop_assign, ↓aop_pick, ↓aop_alloc, ↓aop_box, ↓aop_build, ↓aop_buildSlice, ↓aop_load, ↓aop_store, ↓aop_nilCheck, ↓aop_binOp, ↓aop_unOp, ↓aop_convert, ↓aop_makeSlice, ↓aop_fieldAddr, ↓aop_field, ↓aop_indexAddr, ↓aop_index, ↓aop_lookup, ↓aop_mapUpdate, ↓aop_insert, ↓aop_extract, ↓aop_callB, ↓aop_callF, ↓aop_callT, ↓aop_makeFunc, ↓aop_makeMap, ↓aop_slice, ↓aevs_nil, ↓aevs_cons, ↓evP_nil, ↓evP_cons, ↓aevO_none, ↓aevO_some, ↓reduceIte, reduceCtorEq, Nat.reduceEqDiff, Nat.reduceAdd, Nat.reduceLT, Nat.reduceSub, Nat.reduceMul, Nat.reduceLeDiff, if_true, if_false, if_pos, if_neg, hs_get, hs_set, set_en, ↓hE.cell, ↓hE.flat, tn1, Int.add_sub_cancel, hx, hp, g1]
    · by_cases e : q = A
      · rw [e, g2.out A (by omega), h1] at q3
        cases q3
        exact hC.rfl' _
      · exact g5 q x (by omega) (by omega) q3
theorem call59 (hC : Cmp c) {l : List α} {A B pv : Nat} {p : α} (hl : l.length = n) (hn : n ≤ 1000000) (hA : A ≤ pv) (hpv : pv < B) (hB : B ≤ n) (hp : l[pv]? = some p) : ∃ l' m fl, call Try.cfg 59 [.ms b ver 0 n 1, .v (.int .i64 A), .v (.int .i64 B), .v (.int .i64 pv), .fn F []] (hs en H b ver l) = some (.tu [.v (.int .i64 (m : Nat)), .v (.bool fl)], hs en H b ver l') ∧ PermOn A B l l' ∧ A ≤ m ∧ m < B ∧ l'[m]? = some p ∧
    (∀ q x, A ≤ q → q < m → l'[q]? = some x → c x p < 0) ∧ (∀ q x, m < q → q < B → l'[q]? = some x → ¬ c x p < 0) := by
  cases h0 : loopOf 0 Try.f59 with
  | none => cases h0
  | some a0 =>
  cases h2 : loopOf 2 Try.f59 with
  | none => cases h2
  | some a2 =>
  cases h4 : loopOf 4 Try.f59 with
  | none => cases h4
  | some a4 =>
    obtain ⟨k, rfl⟩ : ∃ k, B = k + 1 := ⟨B - 1, by omega⟩
    have hx : l[A]? = some l[A] := List.getElem?_eq_getElem (by omega)
    generalize l[A] = x0 at hx
    have hp1 := swp_fst hx hp
    have hP1 : PermOn A (k + 1) l (swp l A pv x0 p) := swp_on hx hp (Nat.le_refl _) (by omega) hA (by omega)
    have hl1 : (swp l A pv x0 p).length = n := by rw [swp_length]; exact hl
    generalize hl1' : swp l A pv x0 p = l1 at *
    obtain ⟨i1, u1, u2, u3, u4, u5⟩ := up59_0 (ver := ver) (A := A) hE hF hc hb h0 hl1 hn (j := k) (by omega) hp1 (k + 1 - (A + 1)) (A + 1) (by omega)
    obtain ⟨j1, v1, v2, v3, v4, v5⟩ := down59_2 (ver := ver) (A := A) (i := i1) hE hF hc hb h2 hl1 hn hp1 (by omega) (k + 1 - i1) k (by omega) (by omega)
    -- the last exchange
    have fin : ∀ (l2 : List α) (m : Nat), PermOn A (k + 1) l l2 → A ≤ m → m < k + 1 → l2[A]? = some p → (∀ q x, A < q → q ≤ m → l2[q]? = some x → c x p < 0) → (∀ q x, m < q → q < k + 1 → l2[q]? = some x → ¬ c x p < 0) → ∀ z, l2[m]? = some z →
        PermOn A (k + 1) l (swp l2 m A z p) ∧ (swp l2 m A z p)[m]? = some p ∧ (∀ q x, A ≤ q → q < m → (swp l2 m A z p)[q]? = some x → c x p < 0) ∧ (∀ q x, m < q → q < k + 1 → (swp l2 m A z p)[q]? = some x → ¬ c x p < 0) := by
      intro l2 m g1 g2 g3 g4 g5 g6 z hz
      refine ⟨g1.trans (swp_on hz g4 g2 g3 (Nat.le_refl _) (by omega)), swp_fst hz g4, fun q x q1 q2 q3 => ?_, fun q x q1 q2 q3 => ?_⟩
      · rw [swp_get hz g4] at q3
        by_cases e : q = A
        · rw [if_pos e] at q3
          cases q3
          exact g5 m z (by omega) (Nat.le_refl _) hz
        · rw [if_neg e, if_neg (by omega)] at q3
          exact g5 q x (by omega) (by omega) q3
      · rw [swp_get hz g4, if_neg (by omega), if_neg (by omega)] at q3
        exact g6 q x q1 q2 q3
    by_cases hij : j1 < i1
    · have e : i1 = j1 + 1 := by omega
      have hz : l1[j1]? = some l1[j1] := List.getElem?_eq_getElem (by omega)
      generalize l1[j1] = z at hz
      obtain ⟨f1, f2, f3, f4⟩ := fin l1 j1 hP1 (by omega) (by omega) hp1 (fun q x q1 q2 q3 => u4 q x (by omega) (by omega) q3) (fun q x q1 q2 q3 => v4 q x q1 (by omega) q3) z hz
      refine ⟨_, j1, true, call_step ?_, f1, by omega, by omega, f2, f3, f4⟩
      have hlA := lt_of_get hp1
      cases h0
      cases h2
      cases h4
      simp only [swp] at hl1'
      simp only [s59, Int.natCast_add, Int.natCast_one] at u1 v1
      simp -implicitDefEqProofs (maxSteps := 1000000) (disch := omega) only [stepA, bodyA, Try.f59, push_cast, ↓dstAt_zero, ↓dstAt_succ, ↓arun_skip, ↓arun_region, ↓arun_seq, ↓arun_cond, ↓arun_block, ↓arun_loop, ↓arun_exit, ↓arun_ret, aops_nil, aops_cons, aops_cons_guard, ↓putA_some, ↓putA_none, ↓aop_move, ↓aop_assign, ↓aop_pick, ↓aop_alloc, ↓aop_box, ↓aop_build, ↓aop_buildSlice, ↓aop_load, ↓aop_store, ↓aop_nilCheck, ↓aop_binOp, ↓aop_unOp, ↓aop_convert, ↓aop_makeSlice, ↓aop_fieldAddr, ↓aop_field, ↓aop_indexAddr, ↓aop_index, ↓aop_lookup, ↓aop_mapUpdate, ↓aop_insert, ↓aop_extract, ↓aop_callB, ↓aop_callF, ↓aop_callT, ↓aop_makeFunc, ↓aop_makeMap, ↓aop_slice, ↓aevs_nil, ↓aevs_cons, ↓evP_nil, ↓evP_cons, ↓aevO_none, ↓aevO_some, ↓reduceIte, reduceCtorEq, Nat.reduceEqDiff, Nat.reduceAdd, Nat.reduceLT, Nat.reduceSub, Nat.reduceMul, Nat.reduceLeDiff, if_true, if_false, if_pos, if_neg, hs_get, hs_set, set_en, ↓hE.cell, ↓hE.flat, tn1, Int.add_sub_cancel, hx, hp, hl1', u1, v1, hp1, hz, swp]
    · obtain ⟨k1, rfl⟩ : ∃ k1, j1 = k1 + 1 := ⟨j1 - 1, by omega⟩
      have hx1 : l1[i1]? = some l1[i1] := List.getElem?_eq_getElem (by omega)
      have hy1 : l1[k1 + 1]? = some l1[k1 + 1] := List.getElem?_eq_getElem (by omega)
      generalize l1[i1] = x1 at hx1
      generalize l1[k1 + 1] = y1 at hy1
      have w1 := u5 x1 (by omega) hx1
      have w2 := v5 y1 (by omega) hy1
      have hne : i1 ≠ k1 + 1 := fun e => by
        rw [e, hy1] at hx1
        cases hx1
        exact absurd w2 w1
      have hP2 : PermOn A (k + 1) l1 (swp l1 i1 (k1 + 1) x1 y1) := swp_on hx1 hy1 (by omega) (by omega) (by omega) (by omega)
      have hl2 : (swp l1 i1 (k1 + 1) x1 y1).length = n := by rw [swp_length]; exact hl1
      have hp2 : (swp l1 i1 (k1 + 1) x1 y1)[A]? = some p := by rw [swp_get hx1 hy1, if_neg (by omega), if_neg (by omega)]; exact hp1
      have hu2 : ∀ q x, A < q → q < i1 + 1 → (swp l1 i1 (k1 + 1) x1 y1)[q]? = some x → c x p < 0 := fun q x q1 q2 q3 => by
        rw [swp_get hx1 hy1, if_neg (by omega)] at q3
        by_cases e : q = i1
        · rw [if_pos e] at q3
          cases q3
          exact w2
        · rw [if_neg e] at q3
          exact u4 q x (by omega) (by omega) q3
      have hd2 : ∀ q x, k1 < q → q < k + 1 → (swp l1 i1 (k1 + 1) x1 y1)[q]? = some x → ¬ c x p < 0 := fun q x q1 q2 q3 => by
        rw [swp_get hx1 hy1] at q3
        by_cases e : q = k1 + 1
        · rw [if_pos e] at q3
          cases q3
          exact w1
        · rw [if_neg e, if_neg (by omega)] at q3
          exact v4 q x (by omega) (by omega) q3
      generalize hl2' : swp l1 i1 (k1 + 1) x1 y1 = l2 at *
      obtain ⟨l3, m, g1, g2, g3, g4, g5, g6⟩ := main59 (ver := ver) (A := A) hE hF hc hb h4 hn hB (k1 + 1 - (i1 + 1)) (i1 + 1) k1 l2 hl2 (by omega) (by omega) (by omega) hp2 hu2 hd2
      have hp3 : l3[A]? = some p := by rw [g2.out A (by omega)]; exact hp2
      have hl3 : l3.length = n := by rw [g2.length]; exact hl2
      have hz : l3[m]? = some l3[m] := List.getElem?_eq_getElem (by omega)
      generalize l3[m] = z at hz
      obtain ⟨f1, f2, f3, f4⟩ := fin l3 m (hP1.trans (hP2.trans (g2.widen (by omega) (Nat.le_refl _)))) g3 g4 hp3 g5 g6 z hz
      refine ⟨_, m, false, call_step ?_, f1, by omega, by omega, f2, f3, f4⟩
      have hlA := lt_of_get hp1
      cases h0
      cases h2
      cases h4
      simp only [swp] at hl1' hl2'
      simp only [s59, Int.natCast_add, Int.natCast_one] at u1 v1 g1
      simp -implicitDefEqProofs (maxSteps := 1000000) (disch := omega) only [stepA, bodyA, Try.f59, push_cast, ↓dstAt_zero, ↓dstAt_succ, ↓arun_skip, ↓arun_region, ↓arun_seq, ↓arun_cond, ↓arun_block, ↓arun_loop, ↓arun_exit, ↓arun_ret, aops_nil, aops_cons, aops_cons_guard, ↓putA_some, ↓putA_none, ↓aop_move, ↓aop_assign, ↓aop_pick, ↓aop_alloc, ↓aop_box, ↓aop_build, ↓aop_buildSlice, ↓aop_load, ↓aop_store, ↓aop_nilCheck, ↓aop_binOp, ↓aop_unOp, ↓aop_convert, ↓aop_makeSlice, ↓aop_fieldAddr, ↓aop_field, ↓aop_indexAddr, ↓aop_index, ↓aop_lookup, ↓aop_mapUpdate, ↓aop_insert, ↓aop_extract, ↓aop_callB, ↓aop_callF, ↓aop_callT, ↓aop_makeFunc, ↓aop_makeMap, ↓aop_slice, ↓aevs_nil, ↓aevs_cons, ↓evP_nil, ↓evP_cons, ↓aevO_none, ↓aevO_some, ↓reduceIte, reduceCtorEq, Nat.reduceEqDiff, Nat.reduceAdd, Nat.reduceLT, Nat.reduceSub, Nat.reduceMul, Nat.reduceLeDiff, if_true, if_false, if_pos, if_neg, hs_get, hs_set, set_en, ↓hE.cell, ↓hE.flat, tn1, Int.add_sub_cancel, hx, hp, hl1', u1, v1, hp1, hx1, hy1, hl2', g1, hp3, hz, swp]
end
end Go.Proofs

/- slices.partialInsertionSort. -/
set_option linter.unusedVariables false
set_option linter.unusedSimpArgs false
set_option linter.unusedSectionVars false
namespace Go.Proofs
open Go.AI
set_option maxRecDepth 20000
set_option maxHeartbeats 2000000
section
variable {α : Type} {en : α → AV} (hE : El en) {c : α → α → Int} {F : FuncId} (hF : Try.cfg.shared F = false) (hc : ∀ x y, call Try.cfg F [en x, en y] [] = some (.v (.int .i64 (c x y)), [])) {H : Heap} {b ver n : Nat} (hb : b < H.length)
def s57 (en : α → AV) (F : FuncId) (H : Heap) (b ver n : Nat) (l : List α) (A B i j : Nat) : St := ([(0, .ms b ver 0 n 1), (1, I A), (2, I B), (3, .fn F []), (9, I i), (10, I j)], hs en H b ver l)
def s57d (en : α → AV) (F : FuncId) (H : Heap) (b ver n : Nat) (l : List α) (A B i j t : Nat) : St := ([(0, .ms b ver 0 n 1), (1, I A), (2, I B), (3, .fn F []), (9, I i), (10, I j), (11, I t)], hs en H b ver l)
def s57u (en : α → AV) (F : FuncId) (H : Heap) (b ver n : Nat) (l : List α) (A B i j t : Nat) : St := ([(0, .ms b ver 0 n 1), (1, I A), (2, I B), (3, .fn F []), (9, I i), (10, I j), (12, I t)], hs en H b ver l)
include hE hF hc hb
section
variable {a : Code} (h : loopOf 2 Try.f57 = some a) {l : List α} {A B i j : Nat} (hl : l.length = n) (hn : n ≤ 1000000) (hB : B ≤ n)
include h hl hn hB
theorem r57_2a {k : Nat} (hk : k + 1 < B) {x y : α} (hx : l[k + 1]? = some x) (hy : l[k]? = some y) (hq : ¬ c x y < 0) : roundA Try.cfg 57 iter (call Try.cfg) 2 a (s57 en F H b ver n l A B (k + 1) j) = some (.normal, s57 en F H b ver n l A B (k + 1 + 1) j) := by
  cases h
  simp -implicitDefEqProofs (maxSteps := 1000000) (disch := omega) only [push_cast, ↓dstAt_zero, ↓dstAt_succ, ↓arun_skip, ↓arun_region, ↓arun_seq, ↓arun_cond, ↓arun_block, ↓arun_loop, ↓arun_exit, ↓arun_ret, aops_nil, aops_cons, aops_cons_guard, ↓putA_some, ↓putA_none, ↓aop_move, ↓aop_assign, ↓aop_pick, ↓aop_alloc, ↓aop_box, ↓aop_build, ↓aop_buildSlice, ↓aop_load, ↓aop_store, ↓aop_nilCheck, ↓aop_binOp, ↓aop_unOp, ↓aop_convert, ↓aop_makeSlice, ↓aop_fieldAddr, ↓aop_field, ↓aop_indexAddr, ↓aop_index, ↓aop_lookup, ↓aop_mapUpdate, ↓aop_insert, ↓aop_extract, ↓aop_callB, ↓aop_callF, ↓aop_callT, ↓aop_makeFunc, ↓aop_makeMap, ↓aop_slice, ↓aevs_nil, ↓aevs_cons, ↓evP_nil, ↓evP_cons, ↓aevO_none, ↓aevO_some, ↓reduceIte, reduceCtorEq, Nat.reduceEqDiff, Nat.reduceAdd, Nat.reduceLT, Nat.reduceSub, Nat.reduceMul, Nat.reduceLeDiff, if_true, if_false, if_pos, if_neg, s57, hs_get, ↓closeA_en hE, hF, hc, tn1, Int.add_sub_cancel, hx, hy]
theorem r57_2b {k : Nat} (hk : k + 1 < B) {x y : α} (hx : l[k + 1]? = some x) (hy : l[k]? = some y) (hq : c x y < 0) : roundA Try.cfg 57 iter (call Try.cfg) 2 a (s57 en F H b ver n l A B (k + 1) j) = some (.exit 2, s57 en F H b ver n l A B (k + 1) j) := by
  cases h
  simp -implicitDefEqProofs (maxSteps := 1000000) (disch := omega) only [push_cast, ↓dstAt_zero, ↓dstAt_succ, ↓arun_skip, ↓arun_region, ↓arun_seq, ↓arun_cond, ↓arun_block, ↓arun_loop, ↓arun_exit, ↓arun_ret, aops_nil, aops_cons, aops_cons_guard, ↓putA_some, ↓putA_none, ↓aop_move, ↓aop_assign, ↓aop_pick, ↓aop_alloc, ↓aop_box, ↓aop_build, ↓aop_buildSlice, ↓aop_load, ↓aop_store, ↓aop_nilCheck, ↓aop_binOp, ↓aop_unOp, ↓aop_convert, ↓aop_makeSlice, ↓aop_fieldAddr, ↓aop_field, ↓aop_indexAddr, ↓aop_index, ↓aop_lookup, ↓aop_mapUpdate, ↓aop_insert, ↓aop_extract, ↓aop_callB, ↓aop_callF, ↓aop_callT, ↓aop_makeFunc, ↓aop_makeMap, ↓aop_slice, ↓aevs_nil, ↓aevs_cons, ↓evP_nil, ↓evP_cons, ↓aevO_none, ↓aevO_some, ↓reduceIte, reduceCtorEq, Nat.reduceEqDiff, Nat.reduceAdd, Nat.reduceLT, Nat.reduceSub, Nat.reduceMul, Nat.reduceLeDiff, if_true, if_false, if_pos, if_neg, s57, hs_get, ↓closeA_en hE, hF, hc, tn1, Int.add_sub_cancel, hx, hy]
theorem r57_2c (hk : B ≤ i) : roundA Try.cfg 57 iter (call Try.cfg) 2 a (s57 en F H b ver n l A B i j) = some (.exit 2, s57 en F H b ver n l A B i j) := by
  cases h
  simp -implicitDefEqProofs (maxSteps := 1000000) (disch := omega) only [push_cast, ↓dstAt_zero, ↓dstAt_succ, ↓arun_skip, ↓arun_region, ↓arun_seq, ↓arun_cond, ↓arun_block, ↓arun_loop, ↓arun_exit, ↓arun_ret, aops_nil, aops_cons, aops_cons_guard, ↓putA_some, ↓putA_none, ↓aop_move, ↓aop_assign, ↓aop_pick, ↓aop_alloc, ↓aop_box, ↓aop_build, ↓aop_buildSlice, ↓aop_load, ↓aop_store, ↓aop_nilCheck, ↓aop_binOp, ↓aop_unOp, ↓aop_convert, ↓aop_makeSlice, ↓aop_fieldAddr, ↓aop_field, ↓aop_indexAddr, ↓aop_index, ↓aop_lookup, ↓aop_mapUpdate, ↓aop_insert, ↓aop_extract, ↓aop_callB, ↓aop_callF, ↓aop_callT, ↓aop_makeFunc, ↓aop_makeMap, ↓aop_slice, ↓aevs_nil, ↓aevs_cons, ↓evP_nil, ↓evP_cons, ↓aevO_none, ↓aevO_some, ↓reduceIte, reduceCtorEq, Nat.reduceEqDiff, Nat.reduceAdd, Nat.reduceLT, Nat.reduceSub, Nat.reduceMul, Nat.reduceLeDiff, if_true, if_false, if_pos, if_neg, s57]
theorem scan57 : ∀ (d i : Nat), i + d = B → 1 ≤ i → ∃ i', iter (roundA Try.cfg 57 iter (call Try.cfg) 2 a) (s57 en F H b ver n l A B i j) = some (.exit 2, s57 en F H b ver n l A B i' j) ∧ i ≤ i' ∧ i' ≤ B ∧ (∀ k x y, i ≤ k + 1 → k + 1 < i' → l[k]? = some x → l[k + 1]? = some y → le' c x y)
  | 0, i, hd, hi => ⟨i, iter_last (r57_2c hE hF hc hb h hl hn hB (by omega)) (by simp), Nat.le_refl _, by omega, fun k x y h1 h2 => by omega⟩
  | d + 1, i, hd, hi => by
    obtain ⟨k, rfl⟩ : ∃ k, i = k + 1 := ⟨i - 1, by omega⟩
    have hx : l[k + 1]? = some l[k + 1] := List.getElem?_eq_getElem (by omega)
    have hy : l[k]? = some l[k] := List.getElem?_eq_getElem (by omega)
    generalize l[k + 1] = x at hx
    generalize l[k] = y at hy
    by_cases hq : c x y < 0
    · exact ⟨k + 1, iter_last (r57_2b hE hF hc hb h hl hn hB (by omega) hx hy hq) (by simp), Nat.le_refl _, by omega, fun k x y h1 h2 => by omega⟩
    · obtain ⟨i', g1, g2, g3, g4⟩ := scan57 d (k + 1 + 1) (by omega) (by omega)
      refine ⟨i', iter_normal (r57_2a hE hF hc hb h hl hn hB (by omega) hx hy hq) g1, by omega, g3, fun k' u v q1 q2 q3 q4 => ?_⟩
      by_cases e : k' = k
      · rw [e] at q3 q4
        rw [hy] at q3
        rw [hx] at q4
        cases q3
        cases q4
        exact hq
      · exact g4 k' u v (by omega) q2 q3 q4
end
section
variable {a : Code} (h : loopOf 4 Try.f57 = some a) {l : List α} {A B i j : Nat} (hl : l.length = n) (hn : n ≤ 1000000) (hB : B ≤ n)
include h hl hn hB
theorem r57_4a {k : Nat} (hk : k + 1 < n) {x y : α} (hx : l[k + 1]? = some x) (hy : l[k]? = some y) (hq : c x y < 0) : roundA Try.cfg 57 iter (call Try.cfg) 4 a (s57d en F H b ver n l A B i j (k + 1)) = some (.normal, s57d en F H b ver n (swp l (k + 1) k x y) A B i j k) := by
  cases h
  simp -implicitDefEqProofs (maxSteps := 1000000) (disch := omega) only [push_cast, ↓dstAt_zero, ↓dstAt_succ, ↓arun_skip, ↓arun_region, ↓arun_seq, ↓arun_cond, ↓arun_block, ↓arun_loop, ↓arun_exit, ↓arun_ret, aops_nil, aops_cons, aops_cons_guard, ↓putA_some, ↓putA_none, ↓aop_move, ↓aop_assign, ↓aop_pick, ↓aop_alloc, ↓aop_box, ↓aop_build, ↓aop_buildSlice, ↓aop_load, ↓aop_store, ↓aop_nilCheck, ↓aop_binOp, ↓aop_unOp, ↓aop_convert, ↓aop_makeSlice, ↓aop_fieldAddr, ↓aop_field, ↓aop_indexAddr, ↓aop_index, ↓aop_lookup, ↓aop_mapUpdate, ↓aop_insert, ↓aop_extract, ↓aop_callB, ↓aop_callF, ↓aop_callT, ↓aop_makeFunc, ↓aop_makeMap, ↓aop_slice, ↓aevs_nil, ↓aevs_cons, ↓evP_nil, ↓evP_cons, ↓aevO_none, ↓aevO_some, ↓reduceIte, reduceCtorEq, Nat.reduceEqDiff, Nat.reduceAdd, Nat.reduceLT, Nat.reduceSub, Nat.reduceMul, Nat.reduceLeDiff, if_true, if_false, if_pos, if_neg, s57d, hs_get, hs_set, set_en, ↓closeA_en hE, ↓hE.cell, ↓hE.flat, hF, hc, tn1, Int.add_sub_cancel, hx, hy, swp]
theorem r57_4b {k : Nat} (hk : k + 1 < n) {x y : α} (hx : l[k + 1]? = some x) (hy : l[k]? = some y) (hq : ¬ c x y < 0) : roundA Try.cfg 57 iter (call Try.cfg) 4 a (s57d en F H b ver n l A B i j (k + 1)) = some (.exit 4, s57 en F H b ver n l A B i j) := by
  cases h
  simp -implicitDefEqProofs (maxSteps := 1000000) (disch := omega) only [push_cast, ↓dstAt_zero, ↓dstAt_succ, ↓arun_skip, ↓arun_region, ↓arun_seq, ↓arun_cond, ↓arun_block, ↓arun_loop, ↓arun_exit, ↓arun_ret, aops_nil, aops_cons, aops_cons_guard, ↓putA_some, ↓putA_none, ↓aop_move, ↓aop_assign, ↓aop_pick, ↓aop_alloc, ↓aop_box, ↓aop_build, ↓aop_buildSlice, ↓aop_load, ↓aop_store, ↓aop_nilCheck, ↓aop_binOp, ↓aop_unOp, ↓aop_convert, ↓aop_makeSlice, ↓aop_fieldAddr, ↓aop_field, ↓aop_indexAddr, ↓aop_index, ↓aop_lookup, ↓aop_mapUpdate, ↓aop_insert, ↓aop_extract, ↓aop_callB, ↓aop_callF, ↓aop_callT, ↓aop_makeFunc, ↓aop_makeMap, ↓aop_slice, ↓aevs_nil, ↓aevs_cons, ↓evP_nil, ↓evP_cons, ↓aevO_none, ↓aevO_some, ↓reduceIte, reduceCtorEq, Nat.reduceEqDiff, Nat.reduceAdd, Nat.reduceLT, Nat.reduceSub, Nat.reduceMul, Nat.reduceLeDiff, if_true, if_false, if_pos, if_neg, s57d, s57, hs_get, ↓closeA_en hE, hF, hc, tn1, Int.add_sub_cancel, hx, hy]
theorem r57_4c : roundA Try.cfg 57 iter (call Try.cfg) 4 a (s57d en F H b ver n l A B i j 0) = some (.exit 4, s57 en F H b ver n l A B i j) := by
  cases h
  simp -implicitDefEqProofs (maxSteps := 1000000) (disch := omega) only [push_cast, ↓dstAt_zero, ↓dstAt_succ, ↓arun_skip, ↓arun_region, ↓arun_seq, ↓arun_cond, ↓arun_block, ↓arun_loop, ↓arun_exit, ↓arun_ret, aops_nil, aops_cons, aops_cons_guard, ↓putA_some, ↓putA_none, ↓aop_move, ↓aop_assign, ↓aop_pick, ↓aop_alloc, ↓aop_box, ↓aop_build, ↓aop_buildSlice, ↓aop_load, ↓aop_store, ↓aop_nilCheck, ↓aop_binOp, ↓aop_unOp, ↓aop_convert, ↓aop_makeSlice, ↓aop_fieldAddr, ↓aop_field, ↓aop_indexAddr, ↓aop_index, ↓aop_lookup, ↓aop_mapUpdate, ↓aop_insert, ↓aop_extract, ↓aop_callB, ↓aop_callF, ↓aop_callT, ↓aop_makeFunc, ↓aop_makeMap, ↓aop_slice, ↓aevs_nil, ↓aevs_cons, ↓evP_nil, ↓evP_cons, ↓aevO_none, ↓aevO_some, ↓reduceIte, reduceCtorEq, Nat.reduceEqDiff, Nat.reduceAdd, Nat.reduceLT, Nat.reduceSub, Nat.reduceMul, Nat.reduceLeDiff, if_true, if_false, if_pos, if_neg, s57d, s57]
omit hl in
theorem down57 (hC : Cmp c) {T : Nat} (hT : T < n) {lo : α} (hlo : 0 < A → ∀ x : α, (∃ k, A ≤ k ∧ k ≤ T ∧ l[k]? = some x) → le' c lo x) : ∀ (t : Nat) (m : List α), m.length = n → A ≤ t → t ≤ T → Hole c A T t m → PermOn A (T + 1) l m → (0 < A → m[A - 1]? = some lo) →
    ∃ l', iter (roundA Try.cfg 57 iter (call Try.cfg) 4 a) (s57d en F H b ver n m A B i j t) = some (.exit 4, s57 en F H b ver n l' A B i j) ∧ PermOn A (T + 1) m l' ∧ SortedOn c A (T + 1) l'
  | 0, m, hl, hA, ht, hI, hP, hm => ⟨m, iter_last (r57_4c hE hF hc hb h hl hn hB) (by simp), PermOn.refl _ _ _, fun p q x y hp hpq hq hx hy => hI p q x y hp hpq (by omega) (by omega) hx hy⟩
  | k + 1, m, hl, hA, ht, hI, hP, hm => by
    have hx : m[k + 1]? = some m[k + 1] := List.getElem?_eq_getElem (by omega)
    have hy : m[k]? = some m[k] := List.getElem?_eq_getElem (by omega)
    generalize m[k + 1] = x at hx
    generalize m[k] = y at hy
    by_cases hq : c x y < 0
    · have hk : A ≤ k := by
        rcases Nat.lt_or_ge k A with hlt | hge
        · exfalso
          have e : A = k + 1 := by omega
          have h1 := hm (by omega)
          rw [e, Nat.add_sub_cancel, hy] at h1
          cases h1
          have hl' : l.length = n := by rw [← hP.length]; exact hl
          have h2 : le' c lo x := by
            refine hP.all (by omega) (Q := fun z => le' c lo z) (fun k' z q1 q2 q3 => ?_) (k := k + 1) (by omega) (by omega) hx
            exact hlo (by omega) z ⟨k', q1, by omega, q3⟩
          exact h2 hq
        · exact hge
      have hP2 : PermOn A (T + 1) m (swp m (k + 1) k x y) := swp_on hx hy (by omega) (by omega) hk (by omega)
      obtain ⟨l', g1, g2, g3⟩ := down57 hC hT hlo k (swp m (k + 1) k x y) (by rw [swp_length]; exact hl) hk (by omega) (hI.step hC hk ht hx hy hq) (hP.trans hP2) (fun h0 => by rw [hP2.out (A - 1) (by omega)]; exact hm h0)
      exact ⟨l', iter_normal (r57_4a hE hF hc hb h hl hn hB (by omega) hx hy hq) g1, hP2.trans g2, g3⟩
    · exact ⟨m, iter_last (r57_4b hE hF hc hb h hl hn hB (by omega) hx hy hq) (by simp), PermOn.refl _ _ _, hI.done hC hx hy hq⟩
end
section
variable {a : Code} (h : loopOf 6 Try.f57 = some a) {l : List α} {A B i j : Nat} (hl : l.length = n) (hn : n ≤ 1000000) (hB : B ≤ n)
include h hl hn hB
theorem r57_6a {k : Nat} (hk : k + 1 < B) {x y : α} (hx : l[k + 1]? = some x) (hy : l[k]? = some y) (hq : c x y < 0) : roundA Try.cfg 57 iter (call Try.cfg) 6 a (s57u en F H b ver n l A B i j (k + 1)) = some (.normal, s57u en F H b ver n (swp l (k + 1) k x y) A B i j (k + 1 + 1)) := by
  cases h
  simp -implicitDefEqProofs (maxSteps := 1000000) (disch := omega) only [push_cast, ↓dstAt_zero, ↓dstAt_succ, ↓arun_skip, ↓arun_region, ↓arun_seq, ↓arun_cond, ↓arun_block, ↓arun_loop, ↓arun_exit, ↓arun_ret, aops_nil, aops_cons, aops_cons_guard, ↓putA_some, ↓putA_none, ↓aop_move, ↓aop_assign, ↓aop_pick, ↓aop_alloc, ↓aop_box, ↓aop_build, ↓aop_buildSlice, ↓aop_load, ↓aop_store, ↓aop_nilCheck, ↓aop_binOp, ↓aop_unOp, ↓aop_convert, ↓aop_makeSlice, ↓aop_fieldAddr, ↓aop_field, ↓aop_indexAddr, ↓aop_index, ↓aop_lookup, ↓aop_mapUpdate, ↓aop_insert, ↓aop_extract, ↓aop_callB, ↓aop_callF, ↓aop_callT, ↓aop_makeFunc, ↓aop_makeMap, ↓aop_slice, ↓aevs_nil, ↓aevs_cons, ↓evP_nil, ↓evP_cons, ↓aevO_none, ↓aevO_some, ↓reduceIte, reduceCtorEq, Nat.reduceEqDiff, Nat.reduceAdd, Nat.reduceLT, Nat.reduceSub, Nat.reduceMul, Nat.reduceLeDiff, if_true, if_false, if_pos, if_neg, s57u, hs_get, hs_set, set_en, ↓closeA_en hE, ↓hE.cell, ↓hE.flat, hF, hc, tn1, Int.add_sub_cancel, hx, hy, swp]
theorem r57_6b {k : Nat} (hk : k + 1 < B) {x y : α} (hx : l[k + 1]? = some x) (hy : l[k]? = some y) (hq : ¬ c x y < 0) : roundA Try.cfg 57 iter (call Try.cfg) 6 a (s57u en F H b ver n l A B i j (k + 1)) = some (.exit 6, s57 en F H b ver n l A B i j) := by
  cases h
  simp -implicitDefEqProofs (maxSteps := 1000000) (disch := omega) only [push_cast, ↓dstAt_zero, ↓dstAt_succ, ↓arun_skip, ↓arun_region, ↓arun_seq, ↓arun_cond, ↓arun_block, ↓arun_loop, ↓arun_exit, ↓arun_ret, aops_nil, aops_cons, aops_cons_guard, ↓putA_some, ↓putA_none, ↓aop_move, ↓aop_assign, ↓aop_pick, ↓aop_alloc, ↓aop_box, ↓aop_build, ↓aop_buildSlice, ↓aop_load, ↓aop_store, ↓aop_nilCheck, ↓aop_binOp, ↓aop_unOp, ↓aop_convert, ↓aop_makeSlice, ↓aop_fieldAddr, ↓aop_field, ↓aop_indexAddr, ↓aop_index, ↓aop_lookup, ↓aop_mapUpdate, ↓aop_insert, ↓aop_extract, ↓aop_callB, ↓aop_callF, ↓aop_callT, ↓aop_makeFunc, ↓aop_makeMap, ↓aop_slice, ↓aevs_nil, ↓aevs_cons, ↓evP_nil, ↓evP_cons, ↓aevO_none, ↓aevO_some, ↓reduceIte, reduceCtorEq, Nat.reduceEqDiff, Nat.reduceAdd, Nat.reduceLT, Nat.reduceSub, Nat.reduceMul, Nat.reduceLeDiff, if_true, if_false, if_pos, if_neg, s57u, s57, hs_get, ↓closeA_en hE, hF, hc, tn1, Int.add_sub_cancel, hx, hy]
theorem r57_6c {t : Nat} (hk : B ≤ t) (ht : t ≤ n) : roundA Try.cfg 57 iter (call Try.cfg) 6 a (s57u en F H b ver n l A B i j t) = some (.exit 6, s57 en F H b ver n l A B i j) := by
  cases h
  simp -implicitDefEqProofs (maxSteps := 1000000) (disch := omega) only [push_cast, ↓dstAt_zero, ↓dstAt_succ, ↓arun_skip, ↓arun_region, ↓arun_seq, ↓arun_cond, ↓arun_block, ↓arun_loop, ↓arun_exit, ↓arun_ret, aops_nil, aops_cons, aops_cons_guard, ↓putA_some, ↓putA_none, ↓aop_move, ↓aop_assign, ↓aop_pick, ↓aop_alloc, ↓aop_box, ↓aop_build, ↓aop_buildSlice, ↓aop_load, ↓aop_store, ↓aop_nilCheck, ↓aop_binOp, ↓aop_unOp, ↓aop_convert, ↓aop_makeSlice, ↓aop_fieldAddr, ↓aop_field, ↓aop_indexAddr, ↓aop_index, ↓aop_lookup, ↓aop_mapUpdate, ↓aop_insert, ↓aop_extract, ↓aop_callB, ↓aop_callF, ↓aop_callT, ↓aop_makeFunc, ↓aop_makeMap, ↓aop_slice, ↓aevs_nil, ↓aevs_cons, ↓evP_nil, ↓evP_cons, ↓aevO_none, ↓aevO_some, ↓reduceIte, reduceCtorEq, Nat.reduceEqDiff, Nat.reduceAdd, Nat.reduceLT, Nat.reduceSub, Nat.reduceMul, Nat.reduceLeDiff, if_true, if_false, if_pos, if_neg, s57u, s57]
omit hl in
theorem up57 : ∀ (d k : Nat) (m : List α), m.length = n → k + 1 + d = B → i ≤ k →
    ∃ l', iter (roundA Try.cfg 57 iter (call Try.cfg) 6 a) (s57u en F H b ver n m A B i j (k + 1)) = some (.exit 6, s57 en F H b ver n l' A B i j) ∧ PermOn i B m l'
  | 0, k, m, hl, hd, hi => ⟨m, iter_last (r57_6c hE hF hc hb h hl hn hB (by omega) (by omega)) (by simp), PermOn.refl _ _ _⟩
  | d + 1, k, m, hl, hd, hi => by
    have hx : m[k + 1]? = some m[k + 1] := List.getElem?_eq_getElem (by omega)
    have hy : m[k]? = some m[k] := List.getElem?_eq_getElem (by omega)
    generalize m[k + 1] = x at hx
    generalize m[k] = y at hy
    by_cases hq : c x y < 0
    · obtain ⟨l', g1, g2⟩ := up57 d (k + 1) (swp m (k + 1) k x y) (by rw [swp_length]; exact hl) (by omega) (by omega)
      exact ⟨l', iter_normal (r57_6a hE hF hc hb h hl hn hB (by omega) hx hy hq) g1, (swp_on hx hy (by omega) (by omega) hi (by omega)).trans g2⟩
    · exact ⟨m, iter_last (r57_6b hE hF hc hb h hl hn hB (by omega) hx hy hq) (by simp), PermOn.refl _ _ _⟩
end
end
end Go.Proofs

/- slices.partialInsertionSort: the function. -/
set_option linter.unusedVariables false
set_option linter.unusedSimpArgs false
set_option linter.unusedSectionVars false
namespace Go.Proofs
open Go.AI
set_option maxRecDepth 20000
set_option maxHeartbeats 4000000
theorem adj_sorted {α : Type} {c : α → α → Int} (hC : Cmp c) {l : List α} {A i : Nat} (hi : i ≤ l.length) (h : ∀ k x y, A ≤ k → k + 1 < i → l[k]? = some x → l[k + 1]? = some y → le' c x y) : SortedOn c A i l := by
  intro p q x y hp hpq hq hx hy
  induction q generalizing y with
  | zero => omega
  | succ q ih =>
    have hz : l[q]? = some l[q] := List.getElem?_eq_getElem (by omega)
    generalize l[q] = z at hz
    have h1 := h q z y (by omega) hq hz hy
    by_cases e : p = q
    · rw [e, hz] at hx
      cases hx
      exact h1
    · exact hC.tr _ _ _ (ih z (by omega) (by omega) hz) h1
section
variable {α : Type} {en : α → AV} (hE : El en) {c : α → α → Int} {F : FuncId} (hF : Try.cfg.shared F = false) (hc : ∀ x y, call Try.cfg F [en x, en y] [] = some (.v (.int .i64 (c x y)), [])) {H : Heap} {b ver n : Nat} (hb : b < H.length)
include hE hF hc hb
section
variable {a : Code} (h : loopOf 0 Try.f57 = some a) {l : List α} {A B i j : Nat} (hl : l.length = n) (hn : n ≤ 1000000) (hB : B ≤ n) (hAB : A ≤ B)
include h hl hn hB hAB
theorem o57a (hj : 5 ≤ j) : roundA Try.cfg 57 iter (call Try.cfg) 0 a (s57 en F H b ver n l A B i j) = some (.exit 0, [], hs en H b ver l) := by
  cases h
  simp -implicitDefEqProofs (maxSteps := 1000000) (disch := omega) only [push_cast, ↓dstAt_zero, ↓dstAt_succ, ↓arun_skip, ↓arun_region, ↓arun_seq, ↓arun_cond, ↓arun_block, ↓arun_loop, ↓arun_exit, ↓arun_ret, aops_nil, aops_cons, aops_cons_guard, ↓putA_some, ↓putA_none, ↓aop_move, ↓aop_assign, ↓aop_pick, ↓aop_alloc, ↓aop_box, ↓aop_build, ↓aop_buildSlice, ↓aop_load, ↓aop_store, ↓aop_nilCheck, ↓aop_binOp, ↓aop_unOp, ↓aop_convert, ↓aop_makeSlice, ↓aop_fieldAddr, ↓aop_field, ↓aop_indexAddr, ↓aop_index, ↓aop_lookup, ↓aop_mapUpdate, ↓aop_insert, ↓aop_extract, ↓aop_callB, ↓aop_callF, ↓aop_callT, ↓aop_makeFunc, ↓aop_makeMap, ↓aop_slice, ↓aevs_nil, ↓aevs_cons, ↓evP_nil, ↓evP_cons, ↓aevO_none, ↓aevO_some, ↓reduceIte, reduceCtorEq, Nat.reduceEqDiff, Nat.reduceAdd, Nat.reduceLT, Nat.reduceSub, Nat.reduceMul, Nat.reduceLeDiff, if_true, if_false, if_pos, if_neg, s57]
theorem o57b (hj : j < 5) (gs : ∀ a2, loopOf 2 Try.f57 = some a2 → iter (roundA Try.cfg 57 iter (call Try.cfg) 2 a2) (s57 en F H b ver n l A B i j) = some (.exit 2, s57 en F H b ver n l A B B j)) :
    roundA Try.cfg 57 iter (call Try.cfg) 0 a (s57 en F H b ver n l A B i j) = some (.ret, [(8, .v (.bool true))], hs en H b ver l) := by
  cases h2 : loopOf 2 Try.f57 with
  | none => cases h2
  | some a2 =>
    have g1 := gs a2 h2
    cases h
    cases h2
    simp only [s57] at g1
    simp -implicitDefEqProofs (maxSteps := 1000000) (disch := omega) only [push_cast, ↓dstAt_zero, ↓dstAt_succ, ↓arun_skip, ↓arun_region, ↓arun_seq, ↓arun_cond, ↓arun_block, ↓arun_loop, ↓arun_exit, ↓arun_ret, aops_nil, aops_cons, aops_cons_guard, ↓putA_some, ↓putA_none, ↓aop_move, ↓aop_assign, ↓aop_pick, ↓aop_alloc, ↓aop_box, ↓aop_build, ↓aop_buildSlice, ↓aop_load, ↓aop_store, ↓aop_nilCheck, ↓aop_binOp, ↓aop_unOp, ↓aop_convert, ↓aop_makeSlice, ↓aop_fieldAddr, ↓aop_field, ↓aop_indexAddr, ↓aop_index, ↓aop_lookup, ↓aop_mapUpdate, ↓aop_insert, ↓aop_extract, ↓aop_callB, ↓aop_callF, ↓aop_callT, ↓aop_makeFunc, ↓aop_makeMap, ↓aop_slice, ↓aevs_nil, ↓aevs_cons, ↓evP_nil, ↓evP_cons, ↓aevO_none, ↓aevO_some, ↓reduceIte, reduceCtorEq, Nat.reduceEqDiff, Nat.reduceAdd, Nat.reduceLT, Nat.reduceSub, Nat.reduceMul, Nat.reduceLeDiff, if_true, if_false, if_pos, if_neg, s57, g1]
theorem o57c {i1 : Nat} (hj : j < 5) (hi1 : i1 < B) (h50 : B < A + 50) (gs : ∀ a2, loopOf 2 Try.f57 = some a2 → iter (roundA Try.cfg 57 iter (call Try.cfg) 2 a2) (s57 en F H b ver n l A B i j) = some (.exit 2, s57 en F H b ver n l A B i1 j)) :
    roundA Try.cfg 57 iter (call Try.cfg) 0 a (s57 en F H b ver n l A B i j) = some (.ret, [(8, .v (.bool false))], hs en H b ver l) := by
  cases h2 : loopOf 2 Try.f57 with
  | none => cases h2
  | some a2 =>
    have g1 := gs a2 h2
    cases h
    cases h2
    simp only [s57] at g1
    simp -implicitDefEqProofs (maxSteps := 1000000) (disch := omega) only [push_cast, ↓dstAt_zero, ↓dstAt_succ, ↓arun_skip, ↓arun_region, ↓arun_seq, ↓arun_cond, ↓arun_block, ↓arun_loop, ↓arun_exit, ↓arun_ret, aops_nil, aops_cons, aops_cons_guard, ↓putA_some, ↓putA_none, ↓aop_move, ↓aop_assign, ↓aop_pick, ↓aop_alloc, ↓aop_box, ↓aop_build, ↓aop_buildSlice, ↓aop_load, ↓aop_store, ↓aop_nilCheck, ↓aop_binOp, ↓aop_unOp, ↓aop_convert, ↓aop_makeSlice, ↓aop_fieldAddr, ↓aop_field, ↓aop_indexAddr, ↓aop_index, ↓aop_lookup, ↓aop_mapUpdate, ↓aop_insert, ↓aop_extract, ↓aop_callB, ↓aop_callF, ↓aop_callT, ↓aop_makeFunc, ↓aop_makeMap, ↓aop_slice, ↓aevs_nil, ↓aevs_cons, ↓evP_nil, ↓evP_cons, ↓aevO_none, ↓aevO_some, ↓reduceIte, reduceCtorEq, Nat.reduceEqDiff, Nat.reduceAdd, Nat.reduceLT, Nat.reduceSub, Nat.reduceMul, Nat.reduceLeDiff, if_true, if_false, if_pos, if_neg, s57, g1]
theorem o57d {k : Nat} {x y : α} {l2 l3 : List α} (hj : j < 5) (hi1 : k + 1 < B) (hk : A ≤ k) (h50 : A + 50 ≤ B) (hx : l[k + 1]? = some x) (hy : l[k]? = some y)
    (gs : ∀ a2, loopOf 2 Try.f57 = some a2 → iter (roundA Try.cfg 57 iter (call Try.cfg) 2 a2) (s57 en F H b ver n l A B i j) = some (.exit 2, s57 en F H b ver n l A B (k + 1) j))
    (gd : A + 2 ≤ k + 1 → ∀ a2, loopOf 4 Try.f57 = some a2 → iter (roundA Try.cfg 57 iter (call Try.cfg) 4 a2) (s57d en F H b ver n (swp l (k + 1) k x y) A B (k + 1) j k) = some (.exit 4, s57 en F H b ver n l2 A B (k + 1) j)) (gd' : ¬ A + 2 ≤ k + 1 → l2 = swp l (k + 1) k x y)
    (gu : k + 1 + 2 ≤ B → ∀ a2, loopOf 6 Try.f57 = some a2 → iter (roundA Try.cfg 57 iter (call Try.cfg) 6 a2) (s57u en F H b ver n l2 A B (k + 1) j (k + 1 + 1)) = some (.exit 6, s57 en F H b ver n l3 A B (k + 1) j)) (gu' : ¬ k + 1 + 2 ≤ B → l3 = l2) :
    roundA Try.cfg 57 iter (call Try.cfg) 0 a (s57 en F H b ver n l A B i j) = some (.normal, s57 en F H b ver n l3 A B (k + 1) (j + 1)) := by
  cases h2 : loopOf 2 Try.f57 with
  | none => cases h2
  | some a2 =>
  cases h4 : loopOf 4 Try.f57 with
  | none => cases h4
  | some a4 =>
  cases h6 : loopOf 6 Try.f57 with
  | none => cases h6
  | some a6 =>
    have g1 := gs a2 h2
    have g2 := fun hh => gd hh a4 h4
    have g3 := fun hh => gu hh a6 h6
    clear gs gd gu
    generalize hsw : swp l (k + 1) k x y = l1 at *
    simp only [swp] at hsw
    by_cases q1 : A + 2 ≤ k + 1
    · have g2 := g2 q1
      by_cases q2 : k + 1 + 2 ≤ B
      · have g3 := g3 q2
        cases h
        cases h2
        cases h4
        cases h6
        simp only [s57, s57d, s57u, Int.natCast_add, Int.natCast_one] at g1 g2 g3
        simp -implicitDefEqProofs (maxSteps := 1000000) (disch := omega) only [push_cast, ↓dstAt_zero, ↓dstAt_succ, ↓arun_skip, ↓arun_region, ↓arun_seq, ↓arun_cond, ↓arun_block, ↓arun_loop, ↓arun_exit, ↓arun_ret, aops_nil, aops_cons, aops_cons_guard, ↓putA_some, ↓putA_none, ↓aop_move, ↓aop_assign, ↓aop_pick, ↓aop_alloc, ↓aop_box, ↓aop_build, ↓aop_buildSlice, ↓aop_load, ↓aop_store, ↓aop_nilCheck, ↓aop_binOp, ↓aop_unOp, ↓aop_convert, ↓aop_makeSlice, ↓aop_fieldAddr, ↓aop_field, ↓aop_indexAddr, ↓aop_index, ↓aop_lookup, ↓aop_mapUpdate, ↓aop_insert, ↓aop_extract, ↓aop_callB, ↓aop_callF, ↓aop_callT, ↓aop_makeFunc, ↓aop_makeMap, ↓aop_slice, ↓aevs_nil, ↓aevs_cons, ↓evP_nil, ↓evP_cons, ↓aevO_none, ↓aevO_some, ↓reduceIte, reduceCtorEq, Nat.reduceEqDiff, Nat.reduceAdd, Nat.reduceLT, Nat.reduceSub, Nat.reduceMul, Nat.reduceLeDiff, if_true, if_false, if_pos, if_neg, s57, hs_get, hs_set, set_en, ↓hE.cell, ↓hE.flat, tn1, Int.add_sub_cancel, hx, hy, hsw, g1, g2, g3]
      · have e := gu' q2
        subst e
        cases h
        cases h2
        cases h4
        simp only [s57, s57d, s57u, Int.natCast_add, Int.natCast_one] at g1 g2
        simp -implicitDefEqProofs (maxSteps := 1000000) (disch := omega) only [push_cast, ↓dstAt_zero, ↓dstAt_succ, ↓arun_skip, ↓arun_region, ↓arun_seq, ↓arun_cond, ↓arun_block, ↓arun_loop, ↓arun_exit, ↓arun_ret, aops_nil, aops_cons, aops_cons_guard, ↓putA_some, ↓putA_none, ↓aop_move, ↓aop_assign, ↓aop_pick, ↓aop_alloc, ↓aop_box, ↓aop_build, ↓aop_buildSlice, ↓aop_load, ↓aop_store, ↓aop_nilCheck, ↓aop_binOp, ↓aop_unOp, ↓aop_convert, ↓aop_makeSlice, ↓aop_fieldAddr, ↓aop_field, ↓aop_indexAddr, ↓aop_index, ↓aop_lookup, ↓aop_mapUpdate, ↓aop_insert, ↓aop_extract, ↓aop_callB, ↓aop_callF, ↓aop_callT, ↓aop_makeFunc, ↓aop_makeMap, ↓aop_slice, ↓aevs_nil, ↓aevs_cons, ↓evP_nil, ↓evP_cons, ↓aevO_none, ↓aevO_some, ↓reduceIte, reduceCtorEq, Nat.reduceEqDiff, Nat.reduceAdd, Nat.reduceLT, Nat.reduceSub, Nat.reduceMul, Nat.reduceLeDiff, if_true, if_false, if_pos, if_neg, s57, hs_get, hs_set, set_en, ↓hE.cell, ↓hE.flat, tn1, Int.add_sub_cancel, hx, hy, hsw, g1, g2]
    · have e := gd' q1
      subst e
      by_cases q2 : k + 1 + 2 ≤ B
      · have g3 := g3 q2
        cases h
        cases h2
        cases h6
        simp only [s57, s57d, s57u, Int.natCast_add, Int.natCast_one] at g1 g3
        simp -implicitDefEqProofs (maxSteps := 1000000) (disch := omega) only [push_cast, ↓dstAt_zero, ↓dstAt_succ, ↓arun_skip, ↓arun_region, ↓arun_seq, ↓arun_cond, ↓arun_block, ↓arun_loop, ↓arun_exit, ↓arun_ret, aops_nil, aops_cons, aops_cons_guard, ↓putA_some, ↓putA_none, ↓aop_move, ↓aop_assign, ↓aop_pick, ↓aop_alloc, ↓aop_box, ↓aop_build, ↓aop_buildSlice, ↓aop_load, ↓aop_store, ↓aop_nilCheck, ↓aop_binOp, ↓aop_unOp, ↓aop_convert, ↓aop_makeSlice, ↓aop_fieldAddr, ↓aop_field, ↓aop_indexAddr, ↓aop_index, ↓aop_lookup, ↓aop_mapUpdate, ↓aop_insert, ↓aop_extract, ↓aop_callB, ↓aop_callF, ↓aop_callT, ↓aop_makeFunc, ↓aop_makeMap, ↓aop_slice, ↓aevs_nil, ↓aevs_cons, ↓evP_nil, ↓evP_cons, ↓aevO_none, ↓aevO_some, ↓reduceIte, reduceCtorEq, Nat.reduceEqDiff, Nat.reduceAdd, Nat.reduceLT, Nat.reduceSub, Nat.reduceMul, Nat.reduceLeDiff, if_true, if_false, if_pos, if_neg, s57, hs_get, hs_set, set_en, ↓hE.cell, ↓hE.flat, tn1, Int.add_sub_cancel, hx, hy, hsw, g1, g3]
      · exfalso; omega
end
/-- What the loop comes to. -/
def out57 (en : α → AV) (H : Heap) (b ver : Nat) (l' : List α) : Option Bool → Ex × St
  | some t => (.ret, [(8, .v (.bool t))], hs en H b ver l')
  | none => (.exit 0, [], hs en H b ver l')
theorem l57 (hC : Cmp c) {a : Code} (h : loopOf 0 Try.f57 = some a) {A B : Nat} (hn : n ≤ 1000000) (hB : B ≤ n) (hAB : A ≤ B) {lo : α} : ∀ (d i j : Nat) (l : List α), l.length = n → j + d = 5 → A < i → i ≤ B → (0 < A → l[A - 1]? = some lo ∧ ∀ k x, A ≤ k → k < B → l[k]? = some x → le' c lo x) →
    (∀ k x y, A ≤ k → k + 1 < i → l[k]? = some x → l[k + 1]? = some y → le' c x y) →
    ∃ l' t, iter (roundA Try.cfg 57 iter (call Try.cfg) 0 a) (s57 en F H b ver n l A B i j) = some (out57 en H b ver l' t) ∧ PermOn A B l l' ∧ (t = some true → SortedOn c A B l')
  | 0, i, j, l, hl, hd, hi, hiB, hlo, hI => ⟨l, none, iter_last (o57a hE hF hc hb h hl hn hB hAB (by omega)) (by simp [out57]), PermOn.refl _ _ _, fun e => by cases e⟩
  | d + 1, i, j, l, hl, hd, hi, hiB, hlo, hI => by
    cases h2 : loopOf 2 Try.f57 with
    | none => cases h2
    | some a2 =>
    cases h4 : loopOf 4 Try.f57 with
    | none => cases h4
    | some a4 =>
    cases h6 : loopOf 6 Try.f57 with
    | none => cases h6
    | some a6 =>
      obtain ⟨i1, u1, u2, u3, u4⟩ := scan57 (ver := ver) (A := A) (j := j) hE hF hc hb h2 hl hn hB (B - i) i (by omega) (by omega)
      have hadj : ∀ k x y, A ≤ k → k + 1 < i1 → l[k]? = some x → l[k + 1]? = some y → le' c x y := fun k x y q1 q2 q3 q4 => by
        by_cases e : k + 1 < i
        · exact hI k x y q1 e q3 q4
        · exact u4 k x y (by omega) q2 q3 q4
      have gs : ∀ a3, loopOf 2 Try.f57 = some a3 → iter (roundA Try.cfg 57 iter (call Try.cfg) 2 a3) (s57 en F H b ver n l A B i j) = some (.exit 2, s57 en F H b ver n l A B i1 j) := fun a3 h3 => by
        rw [h2] at h3; cases h3; exact u1
      by_cases e1 : i1 = B
      · rw [e1] at gs hadj
        exact ⟨l, some true, iter_last (o57b hE hF hc hb h hl hn hB hAB (by omega) gs) (by simp [out57]), PermOn.refl _ _ _, fun _ => adj_sorted hC (by omega) hadj⟩
      by_cases e2 : B < A + 50
      · exact ⟨l, some false, iter_last (o57c hE hF hc hb h hl hn hB hAB (by omega) (by omega) e2 gs) (by simp [out57]), PermOn.refl _ _ _, fun e => by cases e⟩
      obtain ⟨k, rfl⟩ : ∃ k, i1 = k + 1 := ⟨i1 - 1, by omega⟩
      have hx : l[k + 1]? = some l[k + 1] := List.getElem?_eq_getElem (by omega)
      have hy : l[k]? = some l[k] := List.getElem?_eq_getElem (by omega)
      generalize l[k + 1] = x at hx
      generalize l[k] = y at hy
      have hP1 : PermOn A B l (swp l (k + 1) k x y) := swp_on hx hy (by omega) (by omega) (by omega) (by omega)
      have hl1 : (swp l (k + 1) k x y).length = n := by rw [swp_length]; exact hl
      have hlo1 : 0 < A → (swp l (k + 1) k x y)[A - 1]? = some lo ∧ ∀ k' z, A ≤ k' → k' < B → (swp l (k + 1) k x y)[k']? = some z → le' c lo z := fun h0 => ⟨by rw [hP1.out (A - 1) (by omega)]; exact (hlo h0).1, fun k' z q1 q2 q3 => hP1.all hAB (Q := fun z => le' c lo z) (fun q z g1 g2 g3 => (hlo h0).2 q z g1 g2 g3) q1 q2 q3⟩
      have hadj1 : ∀ q u v, A ≤ q → q + 1 < k → (swp l (k + 1) k x y)[q]? = some u → (swp l (k + 1) k x y)[q + 1]? = some v → le' c u v := fun q u v q1 q2 q3 q4 => by
        rw [swp_get hx hy, if_neg (by omega), if_neg (by omega)] at q3 q4
        exact hadj q u v q1 (by omega) q3 q4
      -- the part on the left
      obtain ⟨l2, gd, gd', hP2, hS2⟩ : ∃ l2, (A + 2 ≤ k + 1 → iter (roundA Try.cfg 57 iter (call Try.cfg) 4 a4) (s57d en F H b ver n (swp l (k + 1) k x y) A B (k + 1) j k) = some (.exit 4, s57 en F H b ver n l2 A B (k + 1) j)) ∧ (¬ A + 2 ≤ k + 1 → l2 = swp l (k + 1) k x y) ∧ PermOn A (k + 1) (swp l (k + 1) k x y) l2 ∧ SortedOn c A (k + 1) l2 := by
        by_cases q1 : A + 2 ≤ k + 1
        · have hs1 : SortedOn c A k (swp l (k + 1) k x y) := adj_sorted hC (by omega) hadj1
          obtain ⟨l2, g1, g2, g3⟩ := down57 (ver := ver) (B := B) (i := k + 1) (j := j) (A := A) (l := swp l (k + 1) k x y) hE hF hc hb h4 hn hB hC (T := k) (by omega) (lo := lo) (fun h0 z ⟨q, g1, g2, g3⟩ => (hlo1 h0).2 q z g1 (by omega) g3) k (swp l (k + 1) k x y) hl1 (by omega) (Nat.le_refl _)
            (fun p q u v p1 p2 p3 p4 p5 p6 => hs1 p q u v p1 p2 (by omega) p5 p6) (PermOn.refl _ _ _) (fun h0 => (hlo1 h0).1)
          exact ⟨l2, fun _ => g1, fun e => absurd q1 e, g2, g3⟩
        · exact ⟨_, fun e => absurd e q1, fun _ => rfl, PermOn.refl _ _ _, fun p q u v p1 p2 p3 => by omega⟩
      have hl2 : l2.length = n := by rw [hP2.length]; exact hl1
      -- the part on the right
      obtain ⟨l3, gu, gu', hP3⟩ : ∃ l3, (k + 1 + 2 ≤ B → iter (roundA Try.cfg 57 iter (call Try.cfg) 6 a6) (s57u en F H b ver n l2 A B (k + 1) j (k + 1 + 1)) = some (.exit 6, s57 en F H b ver n l3 A B (k + 1) j)) ∧ (¬ k + 1 + 2 ≤ B → l3 = l2) ∧ PermOn (k + 1) B l2 l3 := by
        by_cases q1 : k + 1 + 2 ≤ B
        · obtain ⟨l3, g1, g2⟩ := up57 (ver := ver) (A := A) (i := k + 1) (j := j) hE hF hc hb h6 hn hB (B - (k + 1 + 1)) (k + 1) l2 hl2 (by omega) (Nat.le_refl _)
          exact ⟨l3, fun _ => g1, fun e => absurd q1 e, g2⟩
        · exact ⟨_, fun e => absurd e q1, fun _ => rfl, PermOn.refl _ _ _⟩
      have hP : PermOn A B l l3 := hP1.trans ((hP2.widen (Nat.le_refl _) (by omega)).trans (hP3.widen (by omega) (Nat.le_refl _)))
      obtain ⟨l', t, g1, g2, g3⟩ := l57 hC h hn hB hAB (lo := lo) d (k + 1) (j + 1) l3 (by rw [hP3.length]; exact hl2) (by omega) (by omega) (by omega)
        (fun h0 => ⟨by rw [hP.out (A - 1) (by omega)]; exact (hlo h0).1, fun k' z q1 q2 q3 => hP.all hAB (Q := fun z => le' c lo z) (fun q z g1 g2 g3 => (hlo h0).2 q z g1 g2 g3) q1 q2 q3⟩)
        (fun q u v q1 q2 q3 q4 => by
          rw [hP3.out _ (by omega)] at q3 q4
          exact hS2 q (q + 1) u v q1 (by omega) q2 q3 q4)
      refine ⟨l', t, iter_normal (o57d hE hF hc hb h hl hn hB hAB (by omega) (by omega) (by omega) (by omega) hx hy gs (fun q a3 h3 => ?_) gd' (fun q a3 h3 => ?_) gu') g1, hP.trans g2, g3⟩
      · rw [h4] at h3; cases h3; exact gd q
      · rw [h6] at h3; cases h3; exact gu q
theorem call57 (hC : Cmp c) {l : List α} {A B : Nat} {lo : α} (hl : l.length = n) (hn : n ≤ 1000000) (hA : A < B) (hB : B ≤ n) (hlo : 0 < A → l[A - 1]? = some lo ∧ ∀ k x, A ≤ k → k < B → l[k]? = some x → le' c lo x) :
    ∃ l' t, call Try.cfg 57 [.ms b ver 0 n 1, .v (.int .i64 A), .v (.int .i64 B), .fn F []] (hs en H b ver l) = some (.v (.bool t), hs en H b ver l') ∧ PermOn A B l l' ∧ (t = true → SortedOn c A B l') := by
  cases hlo' : loopOf 0 Try.f57 with
  | none => cases hlo'
  | some a =>
    obtain ⟨l', t, g1, g2, g3⟩ := l57 (ver := ver) hE hF hc hb hC hlo' hn hB (Nat.le_of_lt hA) (lo := lo) 5 (A + 1) 0 l hl rfl (by omega) (by omega) hlo (fun k x y q1 q2 => by omega)
    cases t with
    | none =>
      refine ⟨l', false, call_step ?_, g2, fun e => by cases e⟩
      cases hlo'
      simp only [s57, out57, Int.natCast_add, Int.natCast_one, Int.natCast_zero] at g1
      simp -implicitDefEqProofs (maxSteps := 1000000) (disch := omega) only [stepA, bodyA, Try.f57, push_cast, ↓dstAt_zero, ↓dstAt_succ, ↓arun_skip, ↓arun_region, ↓arun_seq, ↓arun_cond, ↓arun_block, ↓arun_loop, ↓arun_exit, ↓arun_ret, aops_nil, aops_cons, aops_cons_guard, ↓putA_some, ↓putA_none, ↓aop_move, ↓aop_assign, ↓aop_pick, ↓aop_alloc, ↓aop_box, ↓aop_build, ↓aop_buildSlice, ↓aop_load, ↓aop_store, ↓aop_nilCheck, ↓aop_binOp, ↓aop_unOp, ↓aop_convert, ↓aop_makeSlice, ↓aop_fieldAddr, ↓aop_field, ↓aop_indexAddr, ↓aop_index, ↓aop_lookup, ↓aop_mapUpdate, ↓aop_insert, ↓aop_extract, ↓aop_callB, ↓aop_callF, ↓aop_callT, ↓aop_makeFunc, ↓aop_makeMap, ↓aop_slice, ↓aevs_nil, ↓aevs_cons, ↓evP_nil, ↓evP_cons, ↓aevO_none, ↓aevO_some, ↓reduceIte, reduceCtorEq, Nat.reduceEqDiff, Nat.reduceAdd, Nat.reduceLT, Nat.reduceSub, Nat.reduceMul, Nat.reduceLeDiff, if_true, if_false, if_pos, if_neg, g1]
    | some t =>
      refine ⟨l', t, call_step ?_, g2, fun e => g3 (by rw [e])⟩
      cases hlo'
      simp only [s57, out57, Int.natCast_add, Int.natCast_one, Int.natCast_zero] at g1
      simp -implicitDefEqProofs (maxSteps := 1000000) (disch := omega) only [stepA, bodyA, Try.f57, push_cast, ↓dstAt_zero, ↓dstAt_succ, ↓arun_skip, ↓arun_region, ↓arun_seq, ↓arun_cond, ↓arun_block, ↓arun_loop, ↓arun_exit, ↓arun_ret, aops_nil, aops_cons, aops_cons_guard, ↓putA_some, ↓putA_none, ↓aop_move, ↓aop_assign, ↓aop_pick, ↓aop_alloc, ↓aop_box, ↓aop_build, ↓aop_buildSlice, ↓aop_load, ↓aop_store, ↓aop_nilCheck, ↓aop_binOp, ↓aop_unOp, ↓aop_convert, ↓aop_makeSlice, ↓aop_fieldAddr, ↓aop_field, ↓aop_indexAddr, ↓aop_index, ↓aop_lookup, ↓aop_mapUpdate, ↓aop_insert, ↓aop_extract, ↓aop_callB, ↓aop_callF, ↓aop_callT, ↓aop_makeFunc, ↓aop_makeMap, ↓aop_slice, ↓aevs_nil, ↓aevs_cons, ↓evP_nil, ↓evP_cons, ↓aevO_none, ↓aevO_some, ↓reduceIte, reduceCtorEq, Nat.reduceEqDiff, Nat.reduceAdd, Nat.reduceLT, Nat.reduceSub, Nat.reduceMul, Nat.reduceLeDiff, if_true, if_false, if_pos, if_neg, g1]
end
end Go.Proofs

/- slices.siftDown. (printed by tools/sorta.py) -/
set_option linter.unusedVariables false
set_option linter.unusedSimpArgs false
set_option linter.unusedSectionVars false
namespace Go.Proofs
open Go.AI
set_option maxRecDepth 20000
set_option maxHeartbeats 2000000
theorem tn63a (f r : Nat) : ((f : Int) + (r : Int)).toNat = f + r := by omega
theorem tn63b (f r : Nat) : ((f : Int) + (2 * (r : Int) + 1)).toNat = f + (2 * r + 1) := by omega
theorem tn63c (f r : Nat) : ((f : Int) + (2 * (r : Int) + 1) + 1).toNat = f + (2 * r + 1 + 1) := by omega
theorem tn63d (f r : Nat) : ((f : Int) + (2 * (r : Int) + 1 + 1)).toNat = f + (2 * r + 1 + 1) := by omega
section
variable {α : Type} {en : α → AV} (hE : El en) {c : α → α → Int} {F : FuncId} (hF : Try.cfg.shared F = false) (hc : ∀ x y, call Try.cfg F [en x, en y] [] = some (.v (.int .i64 (c x y)), [])) {H : Heap} {b ver n : Nat} (hb : b < H.length)
def s63 (en : α → AV) (F : FuncId) (H : Heap) (b ver n : Nat) (l : List α) (hi f r : Nat) : St := ([(0, .ms b ver 0 n 1), (2, I hi), (3, I f), (4, .fn F []), (10, I r)], hs en H b ver l)
include hE hF hc hb
section
variable {a : Code} (h : loopOf 0 Try.f63 = some a) {l : List α} {hi f r : Nat} (hl : l.length = n) (hn : n ≤ 1000000) (hB : f + hi ≤ n)
include h hl hn hB
theorem r63z (hr : r ≤ n) (hz : hi ≤ 2 * r + 1) : roundA Try.cfg 63 iter (call Try.cfg) 0 a (s63 en F H b ver n l hi f r) = some (.exit 0, [], hs en H b ver l) := by
  cases h
  simp -implicitDefEqProofs (maxSteps := 1000000) (disch := omega) only [push_cast, ↓dstAt_zero, ↓dstAt_succ, ↓arun_skip, ↓arun_region, ↓arun_seq, ↓arun_cond, ↓arun_block, ↓arun_loop, ↓arun_exit, ↓arun_ret, aops_nil, aops_cons, aops_cons_guard, ↓putA_some, ↓putA_none, ↓aop_move, ↓aop_assign, ↓aop_pick, ↓aop_alloc, ↓aop_box, ↓aop_build, ↓aop_buildSlice, ↓aop_load, ↓aop_store, ↓aop_nilCheck, ↓aop_binOp, ↓aop_unOp, ↓aop_convert, ↓aop_makeSlice, ↓aop_fieldAddr, ↓aop_field, ↓aop_indexAddr, ↓aop_index, ↓aop_lookup, ↓aop_mapUpdate, ↓aop_insert, ↓aop_extract, ↓aop_callB, ↓aop_callF, ↓aop_callT, ↓aop_makeFunc, ↓aop_makeMap, ↓aop_slice, ↓aevs_nil, ↓aevs_cons, ↓evP_nil, ↓evP_cons, ↓aevO_none, ↓aevO_some, ↓reduceIte, reduceCtorEq, Nat.reduceEqDiff, Nat.reduceAdd, Nat.reduceLT, Nat.reduceSub, Nat.reduceMul, Nat.reduceLeDiff, if_true, if_false, if_pos, if_neg, s63]
theorem r63ag {x y : α} (hx : l[f + r]? = some x) (hy : l[f + (2 * r + 1)]? = some y) (h2 : 2 * r + 1 < hi) (h3 : hi ≤ 2 * r + 1 + 1) (hq : c x y < 0) : roundA Try.cfg 63 iter (call Try.cfg) 0 a (s63 en F H b ver n l hi f r) = some (.normal, s63 en F H b ver n (swp l (f + r) (f + (2 * r + 1)) x y) hi f (2 * r + 1)) := by
  cases h
  have h1 := lt_of_get hx
  simp -implicitDefEqProofs (maxSteps := 1000000) (disch := omega) only [push_cast, ↓dstAt_zero, ↓dstAt_succ, ↓arun_skip, ↓arun_region, ↓arun_seq, ↓arun_cond, ↓arun_block, ↓arun_loop, ↓arun_exit, ↓arun_ret, aops_nil, aops_cons, aops_cons_guard, ↓putA_some, ↓putA_none, ↓aop_move, ↓aop_assign, ↓aop_pick, ↓aop_alloc, ↓aop_box, ↓aop_build, ↓aop_buildSlice, ↓aop_load, ↓aop_store, ↓aop_nilCheck, ↓aop_binOp, ↓aop_unOp, ↓aop_convert, ↓aop_makeSlice, ↓aop_fieldAddr, ↓aop_field, ↓aop_indexAddr, ↓aop_index, ↓aop_lookup, ↓aop_mapUpdate, ↓aop_insert, ↓aop_extract, ↓aop_callB, ↓aop_callF, ↓aop_callT, ↓aop_makeFunc, ↓aop_makeMap, ↓aop_slice, ↓aevs_nil, ↓aevs_cons, ↓evP_nil, ↓evP_cons, ↓aevO_none, ↓aevO_some, ↓reduceIte, reduceCtorEq, Nat.reduceEqDiff, Nat.reduceAdd, Nat.reduceLT, Nat.reduceSub, Nat.reduceMul, Nat.reduceLeDiff, if_true, if_false, if_pos, if_neg, s63, hs_get, hs_set, set_en, ↓closeA_en hE, ↓hE.cell, ↓hE.flat, hF, hc, tn63a, tn63b, tn63c, tn63d, hx, hy, swp]
  try rfl
theorem r63bg {x y : α} (hx : l[f + r]? = some x) (hy : l[f + (2 * r + 1)]? = some y) {z : α} (hz : l[f + (2 * r + 1 + 1)]? = some z) (h3 : 2 * r + 1 + 1 < hi) (hw : ¬ c y z < 0) (hq : c x y < 0) : roundA Try.cfg 63 iter (call Try.cfg) 0 a (s63 en F H b ver n l hi f r) = some (.normal, s63 en F H b ver n (swp l (f + r) (f + (2 * r + 1)) x y) hi f (2 * r + 1)) := by
  cases h
  have h1 := lt_of_get hx
  simp -implicitDefEqProofs (maxSteps := 1000000) (disch := omega) only [push_cast, ↓dstAt_zero, ↓dstAt_succ, ↓arun_skip, ↓arun_region, ↓arun_seq, ↓arun_cond, ↓arun_block, ↓arun_loop, ↓arun_exit, ↓arun_ret, aops_nil, aops_cons, aops_cons_guard, ↓putA_some, ↓putA_none, ↓aop_move, ↓aop_assign, ↓aop_pick, ↓aop_alloc, ↓aop_box, ↓aop_build, ↓aop_buildSlice, ↓aop_load, ↓aop_store, ↓aop_nilCheck, ↓aop_binOp, ↓aop_unOp, ↓aop_convert, ↓aop_makeSlice, ↓aop_fieldAddr, ↓aop_field, ↓aop_indexAddr, ↓aop_index, ↓aop_lookup, ↓aop_mapUpdate, ↓aop_insert, ↓aop_extract, ↓aop_callB, ↓aop_callF, ↓aop_callT, ↓aop_makeFunc, ↓aop_makeMap, ↓aop_slice, ↓aevs_nil, ↓aevs_cons, ↓evP_nil, ↓evP_cons, ↓aevO_none, ↓aevO_some, ↓reduceIte, reduceCtorEq, Nat.reduceEqDiff, Nat.reduceAdd, Nat.reduceLT, Nat.reduceSub, Nat.reduceMul, Nat.reduceLeDiff, if_true, if_false, if_pos, if_neg, s63, hs_get, hs_set, set_en, ↓closeA_en hE, ↓hE.cell, ↓hE.flat, hF, hc, tn63a, tn63b, tn63c, tn63d, hx, hy, hz, swp]
  try rfl
theorem r63cg {x y : α} (hx : l[f + r]? = some x) (hy : l[f + (2 * r + 1 + 1)]? = some y) {z : α} (hz : l[f + (2 * r + 1)]? = some z) (h3 : 2 * r + 1 + 1 < hi) (hw : c z y < 0) (hq : c x y < 0) : roundA Try.cfg 63 iter (call Try.cfg) 0 a (s63 en F H b ver n l hi f r) = some (.normal, s63 en F H b ver n (swp l (f + r) (f + (2 * r + 1 + 1)) x y) hi f (2 * r + 1 + 1)) := by
  cases h
  have h1 := lt_of_get hx
  simp -implicitDefEqProofs (maxSteps := 1000000) (disch := omega) only [push_cast, ↓dstAt_zero, ↓dstAt_succ, ↓arun_skip, ↓arun_region, ↓arun_seq, ↓arun_cond, ↓arun_block, ↓arun_loop, ↓arun_exit, ↓arun_ret, aops_nil, aops_cons, aops_cons_guard, ↓putA_some, ↓putA_none, ↓aop_move, ↓aop_assign, ↓aop_pick, ↓aop_alloc, ↓aop_box, ↓aop_build, ↓aop_buildSlice, ↓aop_load, ↓aop_store, ↓aop_nilCheck, ↓aop_binOp, ↓aop_unOp, ↓aop_convert, ↓aop_makeSlice, ↓aop_fieldAddr, ↓aop_field, ↓aop_indexAddr, ↓aop_index, ↓aop_lookup, ↓aop_mapUpdate, ↓aop_insert, ↓aop_extract, ↓aop_callB, ↓aop_callF, ↓aop_callT, ↓aop_makeFunc, ↓aop_makeMap, ↓aop_slice, ↓aevs_nil, ↓aevs_cons, ↓evP_nil, ↓evP_cons, ↓aevO_none, ↓aevO_some, ↓reduceIte, reduceCtorEq, Nat.reduceEqDiff, Nat.reduceAdd, Nat.reduceLT, Nat.reduceSub, Nat.reduceMul, Nat.reduceLeDiff, if_true, if_false, if_pos, if_neg, s63, hs_get, hs_set, set_en, ↓closeA_en hE, ↓hE.cell, ↓hE.flat, hF, hc, tn63a, tn63b, tn63c, tn63d, hx, hy, hz, swp]
  try rfl
theorem r63as {x y : α} (hx : l[f + r]? = some x) (hy : l[f + (2 * r + 1)]? = some y) (h2 : 2 * r + 1 < hi) (h3 : hi ≤ 2 * r + 1 + 1) (hq : ¬ c x y < 0) : roundA Try.cfg 63 iter (call Try.cfg) 0 a (s63 en F H b ver n l hi f r) = some (.ret, [], hs en H b ver l) := by
  cases h
  have h1 := lt_of_get hx
  simp -implicitDefEqProofs (maxSteps := 1000000) (disch := omega) only [push_cast, ↓dstAt_zero, ↓dstAt_succ, ↓arun_skip, ↓arun_region, ↓arun_seq, ↓arun_cond, ↓arun_block, ↓arun_loop, ↓arun_exit, ↓arun_ret, aops_nil, aops_cons, aops_cons_guard, ↓putA_some, ↓putA_none, ↓aop_move, ↓aop_assign, ↓aop_pick, ↓aop_alloc, ↓aop_box, ↓aop_build, ↓aop_buildSlice, ↓aop_load, ↓aop_store, ↓aop_nilCheck, ↓aop_binOp, ↓aop_unOp, ↓aop_convert, ↓aop_makeSlice, ↓aop_fieldAddr, ↓aop_field, ↓aop_indexAddr, ↓aop_index, ↓aop_lookup, ↓aop_mapUpdate, ↓aop_insert, ↓aop_extract, ↓aop_callB, ↓aop_callF, ↓aop_callT, ↓aop_makeFunc, ↓aop_makeMap, ↓aop_slice, ↓aevs_nil, ↓aevs_cons, ↓evP_nil, ↓evP_cons, ↓aevO_none, ↓aevO_some, ↓reduceIte, reduceCtorEq, Nat.reduceEqDiff, Nat.reduceAdd, Nat.reduceLT, Nat.reduceSub, Nat.reduceMul, Nat.reduceLeDiff, if_true, if_false, if_pos, if_neg, s63, hs_get, hs_set, set_en, ↓closeA_en hE, ↓hE.cell, ↓hE.flat, hF, hc, tn63a, tn63b, tn63c, tn63d, hx, hy, ]
theorem r63bs {x y : α} (hx : l[f + r]? = some x) (hy : l[f + (2 * r + 1)]? = some y) {z : α} (hz : l[f + (2 * r + 1 + 1)]? = some z) (h3 : 2 * r + 1 + 1 < hi) (hw : ¬ c y z < 0) (hq : ¬ c x y < 0) : roundA Try.cfg 63 iter (call Try.cfg) 0 a (s63 en F H b ver n l hi f r) = some (.ret, [], hs en H b ver l) := by
  cases h
  have h1 := lt_of_get hx
  simp -implicitDefEqProofs (maxSteps := 1000000) (disch := omega) only [push_cast, ↓dstAt_zero, ↓dstAt_succ, ↓arun_skip, ↓arun_region, ↓arun_seq, ↓arun_cond, ↓arun_block, ↓arun_loop, ↓arun_exit, ↓arun_ret, aops_nil, aops_cons, aops_cons_guard, ↓putA_some, ↓putA_none, ↓aop_move, ↓aop_assign, ↓aop_pick, ↓aop_alloc, ↓aop_box, ↓aop_build, ↓aop_buildSlice, ↓aop_load, ↓aop_store, ↓aop_nilCheck, ↓aop_binOp, ↓aop_unOp, ↓aop_convert, ↓aop_makeSlice, ↓aop_fieldAddr, ↓aop_field, ↓aop_indexAddr, ↓aop_index, ↓aop_lookup, ↓aop_mapUpdate, ↓aop_insert, ↓aop_extract, ↓aop_callB, ↓aop_callF, ↓aop_callT, ↓aop_makeFunc, ↓aop_makeMap, ↓aop_slice, ↓aevs_nil, ↓aevs_cons, ↓evP_nil, ↓evP_cons, ↓aevO_none, ↓aevO_some, ↓reduceIte, reduceCtorEq, Nat.reduceEqDiff, Nat.reduceAdd, Nat.reduceLT, Nat.reduceSub, Nat.reduceMul, Nat.reduceLeDiff, if_true, if_false, if_pos, if_neg, s63, hs_get, hs_set, set_en, ↓closeA_en hE, ↓hE.cell, ↓hE.flat, hF, hc, tn63a, tn63b, tn63c, tn63d, hx, hy, hz, ]
theorem r63cs {x y : α} (hx : l[f + r]? = some x) (hy : l[f + (2 * r + 1 + 1)]? = some y) {z : α} (hz : l[f + (2 * r + 1)]? = some z) (h3 : 2 * r + 1 + 1 < hi) (hw : c z y < 0) (hq : ¬ c x y < 0) : roundA Try.cfg 63 iter (call Try.cfg) 0 a (s63 en F H b ver n l hi f r) = some (.ret, [], hs en H b ver l) := by
  cases h
  have h1 := lt_of_get hx
  simp -implicitDefEqProofs (maxSteps := 1000000) (disch := omega) only [push_cast, ↓dstAt_zero, ↓dstAt_succ, ↓arun_skip, ↓arun_region, ↓arun_seq, ↓arun_cond, ↓arun_block, ↓arun_loop, ↓arun_exit, ↓arun_ret, aops_nil, aops_cons, aops_cons_guard, ↓putA_some, ↓putA_none, ↓aop_move, ↓aop_assign, ↓aop_pick, ↓aop_alloc, ↓aop_box, ↓aop_build, ↓aop_buildSlice, ↓aop_load, ↓aop_store, ↓aop_nilCheck, ↓aop_binOp, ↓aop_unOp, ↓aop_convert, ↓aop_makeSlice, ↓aop_fieldAddr, ↓aop_field, ↓aop_indexAddr, ↓aop_index, ↓aop_lookup, ↓aop_mapUpdate, ↓aop_insert, ↓aop_extract, ↓aop_callB, ↓aop_callF, ↓aop_callT, ↓aop_makeFunc, ↓aop_makeMap, ↓aop_slice, ↓aevs_nil, ↓aevs_cons, ↓evP_nil, ↓evP_cons, ↓aevO_none, ↓aevO_some, ↓reduceIte, reduceCtorEq, Nat.reduceEqDiff, Nat.reduceAdd, Nat.reduceLT, Nat.reduceSub, Nat.reduceMul, Nat.reduceLeDiff, if_true, if_false, if_pos, if_neg, s63, hs_get, hs_set, set_en, ↓closeA_en hE, ↓hE.cell, ↓hE.flat, hF, hc, tn63a, tn63b, tn63c, tn63d, hx, hy, hz, ]
end
end
/-- Each child from lo on is at most its parent; the children of r may not be, but they are at most the parent of r. -/
structure Sift {α : Type} (c : α → α → Int) (f lo hi r : Nat) (l : List α) : Prop where
  rest : ∀ ch x y, 0 < ch → ch < hi → lo ≤ (ch - 1) / 2 → (ch - 1) / 2 ≠ r → l[f + ch]? = some x → l[f + (ch - 1) / 2]? = some y → le' c x y
  over : ∀ ch x y, 0 < ch → ch < hi → (ch - 1) / 2 = r → 0 < r → lo ≤ (r - 1) / 2 → l[f + ch]? = some x → l[f + (r - 1) / 2]? = some y → le' c x y
def HeapP {α : Type} (c : α → α → Int) (f lo hi : Nat) (l : List α) : Prop := ∀ ch x y, 0 < ch → ch < hi → lo ≤ (ch - 1) / 2 → l[f + ch]? = some x → l[f + (ch - 1) / 2]? = some y → le' c x y
section
variable {α : Type} {c : α → α → Int} (hC : Cmp c) {f lo hi r ch : Nat} {l : List α} {x y : α}
theorem Sift.stop0 (hz : hi ≤ 2 * r + 1) (hI : Sift c f lo hi r l) : HeapP c f lo hi l := fun ch x y h1 h2 h3 h4 h5 => hI.rest ch x y h1 h2 h3 (by omega) h4 h5
include hC
theorem Sift.stop (hx : l[f + r]? = some x) (hy : l[f + ch]? = some y) (hp : (ch - 1) / 2 = r) (h0 : 0 < ch) (hmax : ∀ k z, 0 < k → k < hi → (k - 1) / 2 = r → l[f + k]? = some z → le' c z y) (hq : ¬ c x y < 0) (hI : Sift c f lo hi r l) : HeapP c f lo hi l := fun k u v h1 h2 h3 h4 h5 => by
  by_cases e : (k - 1) / 2 = r
  · rw [e, hx] at h5
    cases h5
    exact hC.tr _ _ _ (hmax k u h1 h2 e h4) hq
  · exact hI.rest k u v h1 h2 h3 e h4 h5
theorem Sift.step (hx : l[f + r]? = some x) (hy : l[f + ch]? = some y) (hp : (ch - 1) / 2 = r) (h0 : 0 < ch) (hch : ch < hi) (hmax : ∀ k z, 0 < k → k < hi → (k - 1) / 2 = r → l[f + k]? = some z → le' c z y) (hq : c x y < 0) (hlo : lo ≤ r) (hI : Sift c f lo hi r l) : Sift c f lo hi ch (swp l (f + r) (f + ch) x y) := by
  refine ⟨fun k u v h1 h2 h3 h4 h5 h6 => ?_, fun k u v h1 h2 h3 h4 h5 h6 h7 => ?_⟩
  · rw [swp_get hx hy] at h5 h6
    by_cases e1 : k = ch
    · subst e1
      rw [if_pos rfl] at h5
      rw [hp, if_neg (by omega), if_pos rfl] at h6
      cases h5
      cases h6
      exact hC.asym _ _ hq
    · rw [if_neg (by omega)] at h5
      by_cases e2 : k = r
      · subst e2
        rw [if_pos rfl] at h5
        cases h5
        rw [if_neg (by omega), if_neg (by omega)] at h6
        exact hI.over ch _ v h0 hch hp h1 h3 hy h6
      · rw [if_neg (by omega)] at h5
        by_cases e3 : (k - 1) / 2 = r
        · rw [e3, if_neg (by omega), if_pos rfl] at h6
          cases h6
          exact hmax k u h1 h2 e3 h5
        · rw [if_neg (by omega), if_neg (by omega)] at h6
          exact hI.rest k u v h1 h2 h3 e3 h5 h6
  · rw [swp_get hx hy] at h6 h7
    rw [if_neg (by omega), if_neg (by omega)] at h6
    rw [hp, if_neg (by omega), if_pos rfl] at h7
    cases h7
    exact hI.rest k u _ h1 h2 (by omega) (by omega) h6 (by rw [h3]; exact hy)
/-- The first one is the greatest. -/
theorem HeapP.top (hl : f + hi ≤ l.length) (hI : HeapP c f 0 hi l) (hx : l[f]? = some x) : ∀ k y, k < hi → l[f + k]? = some y → le' c y x := by
  intro k
  induction k using Nat.strongRecOn with
  | ind k ih =>
    intro y hk hy
    by_cases e : k = 0
    · subst e
      rw [Nat.add_zero, hx] at hy
      cases hy
      exact hC.rfl' _
    · have hz : l[f + (k - 1) / 2]? = some l[f + (k - 1) / 2] := List.getElem?_eq_getElem (by omega)
      generalize l[f + (k - 1) / 2] = z at hz
      exact hC.tr _ _ _ (hI k y z (by omega) hk (by omega) hy hz) (ih _ (by omega) z (by omega) hz)
end
end Go.Proofs

/- slices.siftDown, heapSort: the functions. -/
set_option linter.unusedVariables false
set_option linter.unusedSimpArgs false
set_option linter.unusedSectionVars false
namespace Go.Proofs
open Go.AI
set_option maxRecDepth 20000
set_option maxHeartbeats 2000000
section
variable {α : Type} {en : α → AV} (hE : El en) {c : α → α → Int} {F : FuncId} (hF : Try.cfg.shared F = false) (hc : ∀ x y, call Try.cfg F [en x, en y] [] = some (.v (.int .i64 (c x y)), [])) {H : Heap} {b ver n : Nat} (hb : b < H.length)
include hE hF hc hb
/-- How the loop is left. -/
def out63 (en : α → AV) (H : Heap) (b ver : Nat) (l : List α) (t : Bool) : Ex × St := if t then (.ret, [], hs en H b ver l) else (.exit 0, [], hs en H b ver l)
omit hE hF hc hb in
theorem out63_ne (en : α → AV) (H : Heap) (b ver : Nat) (l : List α) (t : Bool) : (out63 en H b ver l t).1 ≠ .normal := by cases t <;> simp [out63]
theorem l63 (hC : Cmp c) {a : Code} (h : loopOf 0 Try.f63 = some a) {hi f lo : Nat} (hn : n ≤ 1000000) (hB : f + hi ≤ n) : ∀ (d r : Nat) (l : List α), l.length = n → hi ≤ r + d → lo ≤ r → r ≤ n → f + r < n → Sift c f lo hi r l →
    ∃ l' t, iter (roundA Try.cfg 63 iter (call Try.cfg) 0 a) (s63 en F H b ver n l hi f r) = some (out63 en H b ver l' t) ∧ PermOn (f + lo) (f + hi) l l' ∧ HeapP c f lo hi l'
  | d, r, l, hl, hd, hlo, hr, hfr, hI => by
    by_cases hz : hi ≤ 2 * r + 1
    · exact ⟨l, false, iter_last (r63z hE hF hc hb h hl hn hB hr hz) (by simp [out63]), PermOn.refl _ _ _, hI.stop0 hz⟩
    have hx : l[f + r]? = some l[f + r] := List.getElem?_eq_getElem (by omega)
    have hy1 : l[f + (2 * r + 1)]? = some l[f + (2 * r + 1)] := List.getElem?_eq_getElem (by omega)
    generalize l[f + r] = x at hx
    generalize l[f + (2 * r + 1)] = y1 at hy1
    obtain ⟨d', rfl⟩ : ∃ d', d = d' + 1 := ⟨d - 1, by omega⟩
    by_cases h2 : hi ≤ 2 * r + 1 + 1
    · have hmax : ∀ k z, 0 < k → k < hi → (k - 1) / 2 = r → l[f + k]? = some z → le' c z y1 := fun k z g1 g2 g3 g4 => by
        have e : k = 2 * r + 1 := by omega
        rw [e, hy1] at g4
        cases g4
        exact hC.rfl' _
      by_cases hq : c x y1 < 0
      · obtain ⟨l', t, g1, g2, g3⟩ := l63 hC h hn hB d' (2 * r + 1) (swp l (f + r) (f + (2 * r + 1)) x y1) (by rw [swp_length]; exact hl) (by omega) (by omega) (by omega) (by omega) (hI.step hC hx hy1 (by omega) (by omega) (by omega) hmax hq hlo)
        exact ⟨l', t, iter_normal (r63ag hE hF hc hb h hl hn hB hx hy1 (by omega) h2 hq) g1, (swp_on hx hy1 (by omega) (by omega) (by omega) (by omega)).trans g2, g3⟩
      · exact ⟨l, true, iter_last (r63as hE hF hc hb h hl hn hB hx hy1 (by omega) h2 hq) (by simp [out63]), PermOn.refl _ _ _, hI.stop hC hx hy1 (by omega) (by omega) hmax hq⟩
    · have hy2 : l[f + (2 * r + 1 + 1)]? = some l[f + (2 * r + 1 + 1)] := List.getElem?_eq_getElem (by omega)
      generalize l[f + (2 * r + 1 + 1)] = y2 at hy2
      by_cases hw : c y1 y2 < 0
      · have hmax : ∀ k z, 0 < k → k < hi → (k - 1) / 2 = r → l[f + k]? = some z → le' c z y2 := fun k z g1 g2 g3 g4 => by
          by_cases e : k = 2 * r + 1
          · rw [e, hy1] at g4
            cases g4
            exact hC.asym _ _ hw
          · have e : k = 2 * r + 1 + 1 := by omega
            rw [e, hy2] at g4
            cases g4
            exact hC.rfl' _
        by_cases hq : c x y2 < 0
        · obtain ⟨l', t, g1, g2, g3⟩ := l63 hC h hn hB d' (2 * r + 1 + 1) (swp l (f + r) (f + (2 * r + 1 + 1)) x y2) (by rw [swp_length]; exact hl) (by omega) (by omega) (by omega) (by omega) (hI.step hC hx hy2 (by omega) (by omega) (by omega) hmax hq hlo)
          exact ⟨l', t, iter_normal (r63cg hE hF hc hb h hl hn hB hx hy2 hy1 (by omega) hw hq) g1, (swp_on hx hy2 (by omega) (by omega) (by omega) (by omega)).trans g2, g3⟩
        · exact ⟨l, true, iter_last (r63cs hE hF hc hb h hl hn hB hx hy2 hy1 (by omega) hw hq) (by simp [out63]), PermOn.refl _ _ _, hI.stop hC hx hy2 (by omega) (by omega) hmax hq⟩
      · have hmax : ∀ k z, 0 < k → k < hi → (k - 1) / 2 = r → l[f + k]? = some z → le' c z y1 := fun k z g1 g2 g3 g4 => by
          by_cases e : k = 2 * r + 1
          · rw [e, hy1] at g4
            cases g4
            exact hC.rfl' _
          · have e : k = 2 * r + 1 + 1 := by omega
            rw [e, hy2] at g4
            cases g4
            exact hw
        by_cases hq : c x y1 < 0
        · obtain ⟨l', t, g1, g2, g3⟩ := l63 hC h hn hB d' (2 * r + 1) (swp l (f + r) (f + (2 * r + 1)) x y1) (by rw [swp_length]; exact hl) (by omega) (by omega) (by omega) (by omega) (hI.step hC hx hy1 (by omega) (by omega) (by omega) hmax hq hlo)
          exact ⟨l', t, iter_normal (r63bg hE hF hc hb h hl hn hB hx hy1 hy2 (by omega) hw hq) g1, (swp_on hx hy1 (by omega) (by omega) (by omega) (by omega)).trans g2, g3⟩
        · exact ⟨l, true, iter_last (r63bs hE hF hc hb h hl hn hB hx hy1 hy2 (by omega) hw hq) (by simp [out63]), PermOn.refl _ _ _, hI.stop hC hx hy1 (by omega) (by omega) hmax hq⟩
  termination_by d => d
theorem call63 (hC : Cmp c) {l : List α} {lo hi f : Nat} (hl : l.length = n) (hn : n ≤ 1000000) (hB : f + hi ≤ n) (hlo : f + lo < n) (hI : Sift c f lo hi lo l) : ∃ l', call Try.cfg 63 [.ms b ver 0 n 1, .v (.int .i64 lo), .v (.int .i64 hi), .v (.int .i64 f), .fn F []] (hs en H b ver l) = some (.tu [], hs en H b ver l') ∧ PermOn (f + lo) (f + hi) l l' ∧ HeapP c f lo hi l' := by
  cases h0 : loopOf 0 Try.f63 with
  | none => cases h0
  | some a =>
    obtain ⟨l', t, g1, g2, g3⟩ := l63 (ver := ver) hE hF hc hb hC h0 hn hB hi lo l hl (by omega) (Nat.le_refl _) (by omega) hlo hI
    refine ⟨l', call_step ?_, g2, g3⟩
    cases h0
    cases t with
    | true =>
      simp only [s63, out63, if_true] at g1
      simp -implicitDefEqProofs (maxSteps := 1000000) (disch := omega) only [stepA, bodyA, Try.f63, push_cast, ↓dstAt_zero, ↓dstAt_succ, ↓arun_skip, ↓arun_region, ↓arun_seq, ↓arun_cond, ↓arun_block, ↓arun_loop, ↓arun_exit, ↓arun_ret, aops_nil, aops_cons, aops_cons_guard, ↓putA_some, ↓putA_none, ↓aop_move, ↓aop_assign, ↓aop_pick, ↓aop_alloc, ↓aop_box, ↓aop_build, ↓aop_buildSlice, ↓aop_load, ↓aop_store, ↓aop_nilCheck, ↓aop_binOp, ↓aop_unOp, ↓aop_convert, ↓aop_makeSlice, ↓aop_fieldAddr, ↓aop_field, ↓aop_indexAddr, ↓aop_index, ↓aop_lookup, ↓aop_mapUpdate, ↓aop_insert, ↓aop_extract, ↓aop_callB, ↓aop_callF, ↓aop_callT, ↓aop_makeFunc, ↓aop_makeMap, ↓aop_slice, ↓aevs_nil, ↓aevs_cons, ↓evP_nil, ↓evP_cons, ↓aevO_none, ↓aevO_some, ↓reduceIte, reduceCtorEq, Nat.reduceEqDiff, Nat.reduceAdd, Nat.reduceLT, Nat.reduceSub, Nat.reduceMul, Nat.reduceLeDiff, if_true, if_false, if_pos, if_neg, g1]
    | false =>
      simp only [s63, out63, Bool.false_eq_true, if_false] at g1
      simp -implicitDefEqProofs (maxSteps := 1000000) (disch := omega) only [stepA, bodyA, Try.f63, push_cast, ↓dstAt_zero, ↓dstAt_succ, ↓arun_skip, ↓arun_region, ↓arun_seq, ↓arun_cond, ↓arun_block, ↓arun_loop, ↓arun_exit, ↓arun_ret, aops_nil, aops_cons, aops_cons_guard, ↓putA_some, ↓putA_none, ↓aop_move, ↓aop_assign, ↓aop_pick, ↓aop_alloc, ↓aop_box, ↓aop_build, ↓aop_buildSlice, ↓aop_load, ↓aop_store, ↓aop_nilCheck, ↓aop_binOp, ↓aop_unOp, ↓aop_convert, ↓aop_makeSlice, ↓aop_fieldAddr, ↓aop_field, ↓aop_indexAddr, ↓aop_index, ↓aop_lookup, ↓aop_mapUpdate, ↓aop_insert, ↓aop_extract, ↓aop_callB, ↓aop_callF, ↓aop_callT, ↓aop_makeFunc, ↓aop_makeMap, ↓aop_slice, ↓aevs_nil, ↓aevs_cons, ↓evP_nil, ↓evP_cons, ↓aevO_none, ↓aevO_some, ↓reduceIte, reduceCtorEq, Nat.reduceEqDiff, Nat.reduceAdd, Nat.reduceLT, Nat.reduceSub, Nat.reduceMul, Nat.reduceLeDiff, if_true, if_false, if_pos, if_neg, g1]
/-! ### heapSort -/
def s53 (en : α → AV) (F : FuncId) (H : Heap) (b ver n : Nat) (l : List α) (A hi : Nat) (i : Int) : St := ([(0, .ms b ver 0 n 1), (3, .fn F []), (8, I A), (9, I 0), (10, I hi), (11, I i)], hs en H b ver l)
def t53 (en : α → AV) (F : FuncId) (H : Heap) (b ver n : Nat) (l : List α) (A : Nat) (i : Int) : St := ([(0, .ms b ver 0 n 1), (3, .fn F []), (8, I A), (9, I 0), (12, I i)], hs en H b ver l)
section
variable {a : Code} {A hi : Nat} (hn : n ≤ 1000000) (hB : A + hi ≤ n)
include hn hB
theorem r53a (h : loopOf 0 Try.f53 = some a) {l l' : List α} {i : Nat} (hi' : i ≤ hi) (h63 : call Try.cfg 63 [.ms b ver 0 n 1, .v (.int .i64 i), .v (.int .i64 hi), .v (.int .i64 A), .fn F []] (hs en H b ver l) = some (.tu [], hs en H b ver l')) :
    roundA Try.cfg 53 iter (call Try.cfg) 0 a (s53 en F H b ver n l A hi i) = some (.normal, s53 en F H b ver n l' A hi ((i : Int) - 1)) := by
  cases h
  simp -implicitDefEqProofs (maxSteps := 1000000) (disch := omega) only [push_cast, ↓dstAt_zero, ↓dstAt_succ, ↓arun_skip, ↓arun_region, ↓arun_seq, ↓arun_cond, ↓arun_block, ↓arun_loop, ↓arun_exit, ↓arun_ret, aops_nil, aops_cons, aops_cons_guard, ↓putA_some, ↓putA_none, ↓aop_move, ↓aop_assign, ↓aop_pick, ↓aop_alloc, ↓aop_box, ↓aop_build, ↓aop_buildSlice, ↓aop_load, ↓aop_store, ↓aop_nilCheck, ↓aop_binOp, ↓aop_unOp, ↓aop_convert, ↓aop_makeSlice, ↓aop_fieldAddr, ↓aop_field, ↓aop_indexAddr, ↓aop_index, ↓aop_lookup, ↓aop_mapUpdate, ↓aop_insert, ↓aop_extract, ↓aop_callB, ↓aop_callF, ↓aop_callT, ↓aop_makeFunc, ↓aop_makeMap, ↓aop_slice, ↓aevs_nil, ↓aevs_cons, ↓evP_nil, ↓evP_cons, ↓aevO_none, ↓aevO_some, ↓reduceIte, reduceCtorEq, Nat.reduceEqDiff, Nat.reduceAdd, Nat.reduceLT, Nat.reduceSub, Nat.reduceMul, Nat.reduceLeDiff, if_true, if_false, if_pos, if_neg, s53, h63]
theorem r53b (h : loopOf 0 Try.f53 = some a) {l : List α} {i : Int} (hi' : i < 0) : roundA Try.cfg 53 iter (call Try.cfg) 0 a (s53 en F H b ver n l A hi i) = some (.exit 0, [(0, .ms b ver 0 n 1), (3, .fn F []), (8, I A), (9, I 0), (10, I hi)], hs en H b ver l) := by
  cases h
  simp -implicitDefEqProofs (maxSteps := 1000000) (disch := omega) only [push_cast, ↓dstAt_zero, ↓dstAt_succ, ↓arun_skip, ↓arun_region, ↓arun_seq, ↓arun_cond, ↓arun_block, ↓arun_loop, ↓arun_exit, ↓arun_ret, aops_nil, aops_cons, aops_cons_guard, ↓putA_some, ↓putA_none, ↓aop_move, ↓aop_assign, ↓aop_pick, ↓aop_alloc, ↓aop_box, ↓aop_build, ↓aop_buildSlice, ↓aop_load, ↓aop_store, ↓aop_nilCheck, ↓aop_binOp, ↓aop_unOp, ↓aop_convert, ↓aop_makeSlice, ↓aop_fieldAddr, ↓aop_field, ↓aop_indexAddr, ↓aop_index, ↓aop_lookup, ↓aop_mapUpdate, ↓aop_insert, ↓aop_extract, ↓aop_callB, ↓aop_callF, ↓aop_callT, ↓aop_makeFunc, ↓aop_makeMap, ↓aop_slice, ↓aevs_nil, ↓aevs_cons, ↓evP_nil, ↓evP_cons, ↓aevO_none, ↓aevO_some, ↓reduceIte, reduceCtorEq, Nat.reduceEqDiff, Nat.reduceAdd, Nat.reduceLT, Nat.reduceSub, Nat.reduceMul, Nat.reduceLeDiff, if_true, if_false, if_pos, if_neg, s53]
omit hE hF hc hb hn hB in
theorem sift_of_heap {l : List α} {i : Nat} (h : HeapP c A (i + 1) hi l) : Sift c A i hi i l :=
  ⟨fun ch x y h1 h2 h3 h4 h5 h6 => h ch x y h1 h2 (by omega) h5 h6, fun ch x y h1 h2 h3 h4 h5 => by omega⟩
theorem l53a (hC : Cmp c) (h : loopOf 0 Try.f53 = some a) : ∀ (i : Nat) (l : List α), l.length = n → i ≤ hi → A + i ≤ n → HeapP c A i hi l →
    ∃ l', iter (roundA Try.cfg 53 iter (call Try.cfg) 0 a) (s53 en F H b ver n l A hi ((i : Int) - 1)) = some (.exit 0, [(0, .ms b ver 0 n 1), (3, .fn F []), (8, I A), (9, I 0), (10, I hi)], hs en H b ver l') ∧ PermOn A (A + hi) l l' ∧ HeapP c A 0 hi l'
  | 0, l, hl, hi', hA, hI => ⟨l, iter_last (r53b hE hF hc hb hn hB h (by omega)) (by simp), PermOn.refl _ _ _, hI⟩
  | i + 1, l, hl, hi', hA, hI => by
    obtain ⟨l1, g1, g2, g3⟩ := call63 (ver := ver) (lo := i) (hi := hi) (f := A) hE hF hc hb hC hl hn hB (by omega) (sift_of_heap hI)
    obtain ⟨l', g4, g5, g6⟩ := l53a hC h i l1 (by rw [g2.length]; exact hl) (by omega) (by omega) g3
    have e : ((i + 1 : Nat) : Int) - 1 = i := by omega
    rw [e]
    exact ⟨l', iter_normal (r53a hE hF hc hb hn hB h (by omega) g1) g4, (g2.widen (by omega) (Nat.le_refl _)).trans g5, g6⟩
theorem r53c (h : loopOf 2 Try.f53 = some a) {l l' : List α} {i : Nat} (hi' : i < hi) {x y : α} (hx : l[A]? = some x) (hy : l[A + i]? = some y) (h63 : call Try.cfg 63 [.ms b ver 0 n 1, .v (.int .i64 0), .v (.int .i64 i), .v (.int .i64 A), .fn F []] (hs en H b ver (swp l A (A + i) x y)) = some (.tu [], hs en H b ver l')) (hl : l.length = n) :
    roundA Try.cfg 53 iter (call Try.cfg) 2 a (t53 en F H b ver n l A i) = some (.normal, t53 en F H b ver n l' A ((i : Int) - 1)) := by
  cases h
  simp only [swp] at h63
  simp -implicitDefEqProofs (maxSteps := 1000000) (disch := omega) only [push_cast, ↓dstAt_zero, ↓dstAt_succ, ↓arun_skip, ↓arun_region, ↓arun_seq, ↓arun_cond, ↓arun_block, ↓arun_loop, ↓arun_exit, ↓arun_ret, aops_nil, aops_cons, aops_cons_guard, ↓putA_some, ↓putA_none, ↓aop_move, ↓aop_assign, ↓aop_pick, ↓aop_alloc, ↓aop_box, ↓aop_build, ↓aop_buildSlice, ↓aop_load, ↓aop_store, ↓aop_nilCheck, ↓aop_binOp, ↓aop_unOp, ↓aop_convert, ↓aop_makeSlice, ↓aop_fieldAddr, ↓aop_field, ↓aop_indexAddr, ↓aop_index, ↓aop_lookup, ↓aop_mapUpdate, ↓aop_insert, ↓aop_extract, ↓aop_callB, ↓aop_callF, ↓aop_callT, ↓aop_makeFunc, ↓aop_makeMap, ↓aop_slice, ↓aevs_nil, ↓aevs_cons, ↓evP_nil, ↓evP_cons, ↓aevO_none, ↓aevO_some, ↓reduceIte, reduceCtorEq, Nat.reduceEqDiff, Nat.reduceAdd, Nat.reduceLT, Nat.reduceSub, Nat.reduceMul, Nat.reduceLeDiff, if_true, if_false, if_pos, if_neg, t53, hs_get, hs_set, set_en, ↓hE.cell, ↓hE.flat, tn63a, hx, hy, h63]
theorem r53d (h : loopOf 2 Try.f53 = some a) {l : List α} {i : Int} (hi' : i < 0) : roundA Try.cfg 53 iter (call Try.cfg) 2 a (t53 en F H b ver n l A i) = some (.exit 2, [], hs en H b ver l) := by
  cases h
  simp -implicitDefEqProofs (maxSteps := 1000000) (disch := omega) only [push_cast, ↓dstAt_zero, ↓dstAt_succ, ↓arun_skip, ↓arun_region, ↓arun_seq, ↓arun_cond, ↓arun_block, ↓arun_loop, ↓arun_exit, ↓arun_ret, aops_nil, aops_cons, aops_cons_guard, ↓putA_some, ↓putA_none, ↓aop_move, ↓aop_assign, ↓aop_pick, ↓aop_alloc, ↓aop_box, ↓aop_build, ↓aop_buildSlice, ↓aop_load, ↓aop_store, ↓aop_nilCheck, ↓aop_binOp, ↓aop_unOp, ↓aop_convert, ↓aop_makeSlice, ↓aop_fieldAddr, ↓aop_field, ↓aop_indexAddr, ↓aop_index, ↓aop_lookup, ↓aop_mapUpdate, ↓aop_insert, ↓aop_extract, ↓aop_callB, ↓aop_callF, ↓aop_callT, ↓aop_makeFunc, ↓aop_makeMap, ↓aop_slice, ↓aevs_nil, ↓aevs_cons, ↓evP_nil, ↓evP_cons, ↓aevO_none, ↓aevO_some, ↓reduceIte, reduceCtorEq, Nat.reduceEqDiff, Nat.reduceAdd, Nat.reduceLT, Nat.reduceSub, Nat.reduceMul, Nat.reduceLeDiff, if_true, if_false, if_pos, if_neg, t53]
theorem l53b (hC : Cmp c) (h : loopOf 2 Try.f53 = some a) : ∀ (i : Nat) (l : List α), l.length = n → i ≤ hi → HeapP c A 0 i l → SortedOn c (A + i) (A + hi) l → (∀ p q x y, p < i → i ≤ q → q < hi → l[A + p]? = some x → l[A + q]? = some y → le' c x y) →
    ∃ l', iter (roundA Try.cfg 53 iter (call Try.cfg) 2 a) (t53 en F H b ver n l A ((i : Int) - 1)) = some (.exit 2, [], hs en H b ver l') ∧ PermOn A (A + hi) l l' ∧ SortedOn c A (A + hi) l'
  | 0, l, hl, hi', hI, hs', hx' => ⟨l, iter_last (r53d hE hF hc hb hn hB h (by omega)) (by simp), PermOn.refl _ _ _, hs'⟩
  | i + 1, l, hl, hi', hI, hs', hx' => by
    have hx : l[A]? = some l[A] := List.getElem?_eq_getElem (by omega)
    have hy : l[A + i]? = some l[A + i] := List.getElem?_eq_getElem (by omega)
    generalize l[A] = x at hx
    generalize l[A + i] = y at hy
    have hP1 : PermOn A (A + (i + 1)) l (swp l A (A + i) x y) := swp_on hx hy (Nat.le_refl _) (by omega) (by omega) (by omega)
    have hl1 : (swp l A (A + i) x y).length = n := by rw [swp_length]; exact hl
    have hS : Sift c A 0 i 0 (swp l A (A + i) x y) := ⟨fun ch u v h1 h2 h3 h4 h5 h6 => by
      rw [swp_get hx hy, if_neg (by omega), if_neg (by omega)] at h5 h6
      exact hI ch u v h1 (by omega) (by omega) h5 h6, fun ch u v h1 h2 h3 h4 => by omega⟩
    obtain ⟨l2, g1, g2, g3⟩ := call63 (ver := ver) (lo := 0) (hi := i) (f := A) hE hF hc hb hC hl1 hn (by omega) (by omega) hS
    rw [Nat.add_zero] at g2
    have hl2 : l2.length = n := by rw [g2.length]; exact hl1
    have hP2 : PermOn A (A + (i + 1)) l l2 := hP1.trans (g2.widen (Nat.le_refl _) (by omega))
    have hlast : l2[A + i]? = some x := by rw [g2.out (A + i) (by omega)]; exact swp_snd hx hy
    have htop : ∀ p z, p < i + 1 → l2[A + p]? = some z → le' c z x := fun p z q1 q2 =>
      hP2.all (by omega) (Q := fun z => le' c z x) (fun k z' r1 r2 r3 => by
        have := HeapP.top hC (by omega) hI hx (k - A) z' (by omega) (by rw [show A + (k - A) = k by omega]; exact r3)
        exact this) (by omega) (by omega) q2
    have hcross : ∀ p q u v, p < i + 1 → i + 1 ≤ q → q < hi → l2[A + p]? = some u → l2[A + q]? = some v → le' c u v := fun p q u v q1 q2 q3 q4 q5 => by
      rw [hP2.out (A + q) (by omega)] at q5
      exact hP2.all (by omega) (Q := fun z => le' c z v) (fun k z' r1 r2 r3 => hx' (k - A) q z' v (by omega) q2 q3 (by rw [show A + (k - A) = k by omega]; exact r3) q5) (k := A + p) (by omega) (by omega) q4
    obtain ⟨l', g4, g5, g6⟩ := l53b hC h i l2 hl2 (by omega) g3 (fun p q u v q1 q2 q3 q4 q5 => by
      by_cases e : q < A + (i + 1)
      · omega
      · by_cases e2 : p < A + (i + 1)
        · exact hcross (p - A) (q - A) u v (by omega) (by omega) (by omega) (by rw [show A + (p - A) = p by omega]; exact q4) (by rw [show A + (q - A) = q by omega]; exact q5)
        · rw [hP2.out _ (by omega)] at q4 q5
          exact hs' p q u v (by omega) q2 q3 q4 q5)
      (fun p q u v q1 q2 q3 q4 q5 => by
        by_cases e : q = i
        · rw [e, hlast] at q5
          cases q5
          exact htop p u (by omega) q4
        · exact hcross p q u v (by omega) (by omega) q3 q4 q5)
    have e : ((i + 1 : Nat) : Int) - 1 = i := by omega
    rw [e]
    exact ⟨l', iter_normal (r53c hE hF hc hb hn hB h (by omega) hx hy g1 hl) g4, (hP2.widen (Nat.le_refl _) (by omega)).trans g5, g6⟩
end
theorem call53 (hC : Cmp c) {l : List α} {A B : Nat} (hl : l.length = n) (hn : n ≤ 1000000) (hA : A < B) (hB : B ≤ n) : ∃ l', call Try.cfg 53 [.ms b ver 0 n 1, .v (.int .i64 A), .v (.int .i64 B), .fn F []] (hs en H b ver l) = some (.tu [], hs en H b ver l') ∧ PermOn A B l l' ∧ SortedOn c A B l' := by
  cases h0 : loopOf 0 Try.f53 with
  | none => cases h0
  | some a0 =>
  cases h2 : loopOf 2 Try.f53 with
  | none => cases h2
  | some a2 =>
    obtain ⟨hi, rfl⟩ : ∃ hi, B = A + hi := ⟨B - A, by omega⟩
    obtain ⟨q, hq⟩ : ∃ q : Nat, q = (hi - 1) / 2 := ⟨_, rfl⟩
    have hq1 : ((hi : Int) - 1).tdiv 2 = q := by
      rw [Int.tdiv_eq_ediv_of_nonneg (by omega)]; omega
    obtain ⟨l1, g1, g2, g3⟩ := l53a (ver := ver) (A := A) (hi := hi) hE hF hc hb hn (by omega) hC h0 (q + 1) l hl (by omega) (by omega) (fun ch x y h1 h2 h3 => by omega)
    obtain ⟨l', g4, g5, g6⟩ := l53b (ver := ver) (A := A) (hi := hi) hE hF hc hb hn (by omega) hC h2 hi l1 (by rw [g2.length]; exact hl) (Nat.le_refl _) g3 (fun p q x y h1 h2 h3 => by omega) (fun p q x y h1 h2 h3 => by omega)
    refine ⟨l', call_step ?_, g2.trans g5, g6⟩
    have e1 : ((q + 1 : Nat) : Int) - 1 = q := by omega
    have e2 : ((A + hi : Nat) : Int) - A = hi := by omega
    rw [e1] at g1
    cases h0
    cases h2
    simp only [s53, t53] at g1 g4
    generalize A + hi = B at *
    simp -implicitDefEqProofs (maxSteps := 1000000) (disch := omega) only [stepA, bodyA, Try.f53, push_cast, ↓dstAt_zero, ↓dstAt_succ, ↓arun_skip, ↓arun_region, ↓arun_seq, ↓arun_cond, ↓arun_block, ↓arun_loop, ↓arun_exit, ↓arun_ret, aops_nil, aops_cons, aops_cons_guard, ↓putA_some, ↓putA_none, ↓aop_move, ↓aop_assign, ↓aop_pick, ↓aop_alloc, ↓aop_box, ↓aop_build, ↓aop_buildSlice, ↓aop_load, ↓aop_store, ↓aop_nilCheck, ↓aop_binOp, ↓aop_unOp, ↓aop_convert, ↓aop_makeSlice, ↓aop_fieldAddr, ↓aop_field, ↓aop_indexAddr, ↓aop_index, ↓aop_lookup, ↓aop_mapUpdate, ↓aop_insert, ↓aop_extract, ↓aop_callB, ↓aop_callF, ↓aop_callT, ↓aop_makeFunc, ↓aop_makeMap, ↓aop_slice, ↓aevs_nil, ↓aevs_cons, ↓evP_nil, ↓evP_cons, ↓aevO_none, ↓aevO_some, ↓reduceIte, reduceCtorEq, Nat.reduceEqDiff, Nat.reduceAdd, Nat.reduceLT, Nat.reduceSub, Nat.reduceMul, Nat.reduceLeDiff, if_true, if_false, if_pos, if_neg, abin_quo, e2, hq1, g1, g4]
end
end Go.Proofs

/- The abstract interpreter: long rows of statements, piece by piece. No conditions. -/
set_option linter.unusedVariables false
namespace Go.AI
def flatS : Code → List Code
  | .seq a b => flatS a ++ flatS b
  | c => [c]
section
variable (c : Cfg) (f : FuncId) (lp : Lp) (C : Cl) (k : Nat)
def runL : List Code → Env → Heap → Option (Ex × St)
  | [], e, H => some (.normal, e, H)
  | a :: r, e, H => obind (arun c f lp C k a e H) fun q => match q.1 with | .normal => runL r q.2.1 q.2.2 | _ => some q
def thenL (r : List Code) (q : Option (Ex × St)) : Option (Ex × St) := obind q fun q => match q.1 with | .normal => runL c f lp C k r q.2.1 q.2.2 | _ => some q
@[congr] theorem thenL_congr {r : List Code} {q q' : Option (Ex × St)} (h : q = q') : thenL c f lp C k r q = thenL c f lp C k r q' := by rw [h]
@[congr] theorem runL_congr {r : List Code} {e e' : Env} {H H' : Heap} (h : e = e') (h' : H = H') : runL c f lp C k r e H = runL c f lp C k r e' H' := by rw [h, h']
theorem runL_nil (e : Env) (H : Heap) : runL c f lp C k [] e H = some (.normal, e, H) := rfl
theorem runL_cons (a : Code) (r : List Code) (e : Env) (H : Heap) : runL c f lp C k (a :: r) e H = thenL c f lp C k r (arun c f lp C k a e H) := rfl
theorem thenL_normal (r : List Code) (e : Env) (H : Heap) : thenL c f lp C k r (some (.normal, e, H)) = runL c f lp C k r e H := rfl
theorem thenL_ret (r : List Code) (s : St) : thenL c f lp C k r (some (.ret, s)) = some (.ret, s) := rfl
theorem thenL_exit (r : List Code) (i : Nat) (s : St) : thenL c f lp C k r (some (.exit i, s)) = some (.exit i, s) := rfl
theorem runL_append (r r' : List Code) (e : Env) (H : Heap) : runL c f lp C k (r ++ r') e H = thenL c f lp C k r' (runL c f lp C k r e H) := by
  induction r generalizing e H with
  | nil => rfl
  | cons a r ih =>
    rw [List.cons_append, runL_cons, runL_cons]
    cases arun c f lp C k a e H with
    | none => rfl
    | some q =>
      obtain ⟨x, e', H'⟩ := q
      cases x with
      | normal => rw [thenL_normal, thenL_normal]; exact ih e' H'
      | exit i => rfl
      | ret => rfl
theorem arun_flat (a : Code) (e : Env) (H : Heap) : arun c f lp C k a e H = runL c f lp C k (flatS a) e H := by
  induction a generalizing e H with
  | seq a b iha ihb =>
    rw [flatS, runL_append, ← iha, arun_seq]
    cases arun c f lp C k a e H with
    | none => rfl
    | some q =>
      obtain ⟨x, e', H'⟩ := q
      cases x with
      | normal => rw [thenL_normal, thenA_normal]; exact ihb e' H'
      | exit i => rfl
      | ret => rfl
  | _ =>
    simp only [flatS, runL]
    generalize arun c f lp C k _ e H = q
    cases q with
    | none => rfl
    | some q =>
      obtain ⟨x, s⟩ := q
      cases x <;> rfl
end
section
variable {c : Cfg} {f : FuncId} {lp : Lp} {C : Cl} {k : Nat}
theorem runL_go {r r' : List Code} {e e' : Env} {H H' : Heap} (h : runL c f lp C k r e H = some (.normal, e', H')) : runL c f lp C k (r ++ r') e H = runL c f lp C k r' e' H' := by rw [runL_append, h]; rfl
theorem runL_stop {r r' : List Code} {e : Env} {H : Heap} {x : Ex} {s : St} (h : runL c f lp C k r e H = some (x, s)) (hx : x ≠ .normal) : runL c f lp C k (r ++ r') e H = some (x, s) := by
  rw [runL_append, h]
  cases x with
  | normal => exact absurd rfl hx
  | exit i => rfl
  | ret => rfl
end
/-- The pieces of a loop's block. -/
def piece (a : Option Code) (i : Nat) : Option Code :=
  match a with
  | some (.block _ b) => (flatS b)[i]?
  | some b => (flatS b)[i]?
  | none => none
end Go.AI

/- slices.pdqsort: the pieces of a round. -/
set_option linter.unusedVariables false
set_option linter.unusedSimpArgs false
set_option linter.unusedSectionVars false
namespace Go.Proofs
open Go.AI
set_option maxRecDepth 20000
set_option maxHeartbeats 2000000
noncomputable abbrev p47 (i : Nat) : Option Code := piece (loopOf 0 Try.f47) i
noncomputable abbrev run47 := runL Try.cfg 47 iter (call Try.cfg) 1
def e47 (b ver n : Nat) (F : FuncId) (A B : Nat) (lim : Int) (wb wp : Bool) : Env := [(0, .ms b ver 0 n 1), (1, I A), (2, I B), (3, I lim), (4, .fn F []), (10, .v (.bool wb)), (11, .v (.bool wp))]
section
variable {F : FuncId} {H H' : Heap} {b ver n : Nat} {A B : Nat} {lim : Int} {wb wp : Bool} (hn : n ≤ 1000) (hA : A ≤ B) (hB : B ≤ n)
include hn hA hB
section
variable {p0 p1 p2 p3 p4 p5 : Code} (h0 : p47 0 = some p0) (h1 : p47 1 = some p1) (h2 : p47 2 = some p2) (h3 : p47 3 = some p3) (h4 : p47 4 = some p4) (h5 : p47 5 = some p5)
include h0 h1 h2 h3 h4 h5
theorem st47_1a (h12 : B ≤ A + 12) (hc : call Try.cfg 52 [.ms b ver 0 n 1, .v (.int .i64 A), .v (.int .i64 B), .fn F []] H = some (.tu [], H')) :
    run47 [p0, p1, p2, p3, p4, p5] (e47 b ver n F A B lim wb wp) H = some (.ret, [], H') := by
  cases h0; cases h1; cases h2; cases h3; cases h4; cases h5
  simp -implicitDefEqProofs (maxSteps := 1000000) (disch := omega) only [push_cast, ↓dstAt_zero, ↓dstAt_succ, ↓arun_skip, ↓arun_region, ↓arun_seq, ↓arun_cond, ↓arun_block, ↓arun_loop, ↓arun_exit, ↓arun_ret, aops_nil, aops_cons, aops_cons_guard, ↓putA_some, ↓putA_none, ↓aop_move, ↓aop_assign, ↓aop_pick, ↓aop_alloc, ↓aop_box, ↓aop_build, ↓aop_buildSlice, ↓aop_load, ↓aop_store, ↓aop_nilCheck, ↓aop_binOp, ↓aop_unOp, ↓aop_convert, ↓aop_makeSlice, ↓aop_fieldAddr, ↓aop_field, ↓aop_indexAddr, ↓aop_index, ↓aop_lookup, ↓aop_mapUpdate, ↓aop_insert, ↓aop_extract, ↓aop_callB, ↓aop_callF, ↓aop_callT, ↓aop_makeFunc, ↓aop_makeMap, ↓aop_slice, ↓aevs_nil, ↓aevs_cons, ↓evP_nil, ↓evP_cons, ↓aevO_none, ↓aevO_some, ↓reduceIte, reduceCtorEq, Nat.reduceEqDiff, Nat.reduceAdd, Nat.reduceLT, Nat.reduceSub, Nat.reduceMul, Nat.reduceLeDiff, if_true, if_false, if_pos, if_neg, runL_nil, runL_cons, thenL_normal, thenL_ret, thenL_exit, e47, hc]
theorem st47_1b (h12 : A + 12 < B) (hl : lim = 0) (hc : call Try.cfg 53 [.ms b ver 0 n 1, .v (.int .i64 A), .v (.int .i64 B), .fn F []] H = some (.tu [], H')) :
    run47 [p0, p1, p2, p3, p4, p5] (e47 b ver n F A B lim wb wp) H = some (.ret, [], H') := by
  cases h0; cases h1; cases h2; cases h3; cases h4; cases h5
  simp -implicitDefEqProofs (maxSteps := 1000000) (disch := omega) only [push_cast, ↓dstAt_zero, ↓dstAt_succ, ↓arun_skip, ↓arun_region, ↓arun_seq, ↓arun_cond, ↓arun_block, ↓arun_loop, ↓arun_exit, ↓arun_ret, aops_nil, aops_cons, aops_cons_guard, ↓putA_some, ↓putA_none, ↓aop_move, ↓aop_assign, ↓aop_pick, ↓aop_alloc, ↓aop_box, ↓aop_build, ↓aop_buildSlice, ↓aop_load, ↓aop_store, ↓aop_nilCheck, ↓aop_binOp, ↓aop_unOp, ↓aop_convert, ↓aop_makeSlice, ↓aop_fieldAddr, ↓aop_field, ↓aop_indexAddr, ↓aop_index, ↓aop_lookup, ↓aop_mapUpdate, ↓aop_insert, ↓aop_extract, ↓aop_callB, ↓aop_callF, ↓aop_callT, ↓aop_makeFunc, ↓aop_makeMap, ↓aop_slice, ↓aevs_nil, ↓aevs_cons, ↓evP_nil, ↓evP_cons, ↓aevO_none, ↓aevO_some, ↓reduceIte, reduceCtorEq, Nat.reduceEqDiff, Nat.reduceAdd, Nat.reduceLT, Nat.reduceSub, Nat.reduceMul, Nat.reduceLeDiff, if_true, if_false, if_pos, if_neg, runL_nil, runL_cons, thenL_normal, thenL_ret, thenL_exit, e47, hc]
theorem st47_1c (h12 : A + 12 < B) (hl : lim ≠ 0) : run47 [p0, p1, p2, p3, p4, p5] (e47 b ver n F A B lim wb wp) H = some (.normal, [(0, .ms b ver 0 n 1), (1, I A), (2, I B), (3, I lim), (4, .fn F []), (10, .v (.bool wb)), (11, .v (.bool wp)), (12, I ((B : Int) - A)), (39, .v (.bool (!wb)))], H) := by
  cases h0; cases h1; cases h2; cases h3; cases h4; cases h5
  simp -implicitDefEqProofs (maxSteps := 1000000) (disch := omega) only [push_cast, ↓dstAt_zero, ↓dstAt_succ, ↓arun_skip, ↓arun_region, ↓arun_seq, ↓arun_cond, ↓arun_block, ↓arun_loop, ↓arun_exit, ↓arun_ret, aops_nil, aops_cons, aops_cons_guard, ↓putA_some, ↓putA_none, ↓aop_move, ↓aop_assign, ↓aop_pick, ↓aop_alloc, ↓aop_box, ↓aop_build, ↓aop_buildSlice, ↓aop_load, ↓aop_store, ↓aop_nilCheck, ↓aop_binOp, ↓aop_unOp, ↓aop_convert, ↓aop_makeSlice, ↓aop_fieldAddr, ↓aop_field, ↓aop_indexAddr, ↓aop_index, ↓aop_lookup, ↓aop_mapUpdate, ↓aop_insert, ↓aop_extract, ↓aop_callB, ↓aop_callF, ↓aop_callT, ↓aop_makeFunc, ↓aop_makeMap, ↓aop_slice, ↓aevs_nil, ↓aevs_cons, ↓evP_nil, ↓evP_cons, ↓aevO_none, ↓aevO_some, ↓reduceIte, reduceCtorEq, Nat.reduceEqDiff, Nat.reduceAdd, Nat.reduceLT, Nat.reduceSub, Nat.reduceMul, Nat.reduceLeDiff, if_true, if_false, if_pos, if_neg, runL_nil, runL_cons, thenL_normal, thenL_ret, thenL_exit, e47]
end
/-- Behind the choice of a pivot. -/
def e47b (b ver n : Nat) (F : FuncId) (A B : Nat) (lim : Int) (wb wp : Bool) (r : Nat) (hint : Int) : Env := [(0, .ms b ver 0 n 1), (1, I A), (2, I B), (3, I lim), (4, .fn F []), (10, .v (.bool wb)), (11, .v (.bool wp)), (12, I ((B : Int) - A)), (13, I r), (14, I hint), (56, .v (.bool (decide (hint = 2))))]
def e47a (b ver n : Nat) (F : FuncId) (A B : Nat) (lim : Int) (wb wp : Bool) : Env := [(0, .ms b ver 0 n 1), (1, I A), (2, I B), (3, I lim), (4, .fn F []), (10, .v (.bool wb)), (11, .v (.bool wp)), (12, I ((B : Int) - A)), (39, .v (.bool (!wb)))]
def e47c (b ver n : Nat) (F : FuncId) (A B : Nat) (lim : Int) (wb wp : Bool) (r : Nat) (t : Bool) : Env := [(0, .ms b ver 0 n 1), (1, I A), (2, I B), (3, I lim), (4, .fn F []), (10, .v (.bool wb)), (11, .v (.bool wp)), (12, I ((B : Int) - A)), (13, I r), (75, .v (.bool t))]
def e47d (b ver n : Nat) (F : FuncId) (A B : Nat) (lim : Int) (wb wp : Bool) (r : Nat) (t : Bool) : Env := [(0, .ms b ver 0 n 1), (1, I A), (2, I B), (3, I lim), (4, .fn F []), (10, .v (.bool wb)), (11, .v (.bool wp)), (12, I ((B : Int) - A)), (13, I r), (97, .v (.bool t))]
def e47e (b ver n : Nat) (F : FuncId) (A B m thr : Nat) (lim : Int) (fl : Bool) : Env := [(0, .ms b ver 0 n 1), (1, I A), (2, I B), (3, I lim), (4, .fn F []), (11, .v (.bool fl)), (16, I m), (18, I ((m : Int) - A)), (19, I ((B : Int) - m)), (20, I thr), (125, .v (.bool (decide ((m : Int) - A < B - m))))]
section
variable {p6 p7 p8 : Code} (h6 : p47 6 = some p6) (h7 : p47 7 = some p7) (h8 : p47 8 = some p8) {r : Nat} {hint : Int} {H1 : Heap} (hlim : 0 ≤ lim) (hlim' : lim ≤ 100)
include h6 h7 h8 hlim hlim'
theorem st47_2a (hw : wb = true) (hc : call Try.cfg 55 [.ms b ver 0 n 1, .v (.int .i64 A), .v (.int .i64 B), .fn F []] H = some (.tu [.v (.int .i64 r), .v (.int .i64 hint)], H')) :
    run47 [p6, p7, p8] (e47a b ver n F A B lim wb wp) H = some (.normal, e47b b ver n F A B lim wb wp r hint, H') := by
  cases h6; cases h7; cases h8; cases hw
  simp -implicitDefEqProofs (maxSteps := 1000000) (disch := omega) only [push_cast, ↓dstAt_zero, ↓dstAt_succ, ↓arun_skip, ↓arun_region, ↓arun_seq, ↓arun_cond, ↓arun_block, ↓arun_loop, ↓arun_exit, ↓arun_ret, aops_nil, aops_cons, aops_cons_guard, ↓putA_some, ↓putA_none, ↓aop_move, ↓aop_assign, ↓aop_pick, ↓aop_alloc, ↓aop_box, ↓aop_build, ↓aop_buildSlice, ↓aop_load, ↓aop_store, ↓aop_nilCheck, ↓aop_binOp, ↓aop_unOp, ↓aop_convert, ↓aop_makeSlice, ↓aop_fieldAddr, ↓aop_field, ↓aop_indexAddr, ↓aop_index, ↓aop_lookup, ↓aop_mapUpdate, ↓aop_insert, ↓aop_extract, ↓aop_callB, ↓aop_callF, ↓aop_callT, ↓aop_makeFunc, ↓aop_makeMap, ↓aop_slice, ↓aevs_nil, ↓aevs_cons, ↓evP_nil, ↓evP_cons, ↓aevO_none, ↓aevO_some, ↓reduceIte, reduceCtorEq, Nat.reduceEqDiff, Nat.reduceAdd, Nat.reduceLT, Nat.reduceSub, Nat.reduceMul, Nat.reduceLeDiff, if_true, if_false, if_pos, if_neg, runL_nil, runL_cons, thenL_normal, thenL_ret, thenL_exit, e47a, e47b, hc]
theorem st47_2b (hw : wb = false) (hc1 : call Try.cfg 54 [.ms b ver 0 n 1, .v (.int .i64 A), .v (.int .i64 B), .fn F []] H = some (.tu [], H1)) (hc : call Try.cfg 55 [.ms b ver 0 n 1, .v (.int .i64 A), .v (.int .i64 B), .fn F []] H1 = some (.tu [.v (.int .i64 r), .v (.int .i64 hint)], H')) :
    run47 [p6, p7, p8] (e47a b ver n F A B lim wb wp) H = some (.normal, e47b b ver n F A B (lim - 1) wb wp r hint, H') := by
  cases h6; cases h7; cases h8; cases hw
  simp -implicitDefEqProofs (maxSteps := 1000000) (disch := omega) only [push_cast, ↓dstAt_zero, ↓dstAt_succ, ↓arun_skip, ↓arun_region, ↓arun_seq, ↓arun_cond, ↓arun_block, ↓arun_loop, ↓arun_exit, ↓arun_ret, aops_nil, aops_cons, aops_cons_guard, ↓putA_some, ↓putA_none, ↓aop_move, ↓aop_assign, ↓aop_pick, ↓aop_alloc, ↓aop_box, ↓aop_build, ↓aop_buildSlice, ↓aop_load, ↓aop_store, ↓aop_nilCheck, ↓aop_binOp, ↓aop_unOp, ↓aop_convert, ↓aop_makeSlice, ↓aop_fieldAddr, ↓aop_field, ↓aop_indexAddr, ↓aop_index, ↓aop_lookup, ↓aop_mapUpdate, ↓aop_insert, ↓aop_extract, ↓aop_callB, ↓aop_callF, ↓aop_callT, ↓aop_makeFunc, ↓aop_makeMap, ↓aop_slice, ↓aevs_nil, ↓aevs_cons, ↓evP_nil, ↓evP_cons, ↓aevO_none, ↓aevO_some, ↓reduceIte, reduceCtorEq, Nat.reduceEqDiff, Nat.reduceAdd, Nat.reduceLT, Nat.reduceSub, Nat.reduceMul, Nat.reduceLeDiff, if_true, if_false, if_pos, if_neg, runL_nil, runL_cons, thenL_normal, thenL_ret, thenL_exit, e47a, e47b, hc1, hc]
end
section
variable {p9 p10 : Code} (h9 : p47 9 = some p9) (h10 : p47 10 = some p10) {r : Nat} {hint : Int} (hr : A ≤ r) (hr' : r < B)
include h9 h10 hr hr'
theorem st47_3a (hh : hint = 2) (hc : call Try.cfg 56 [.ms b ver 0 n 1, .v (.int .i64 A), .v (.int .i64 B), .fn F []] H = some (.tu [], H')) :
    run47 [p9, p10] (e47b b ver n F A B lim wb wp r hint) H = some (.normal, e47c b ver n F A B lim wb wp (B - 1 - (r - A)) (wb && wp), H') := by
  cases h9; cases h10
  have e : (B : Int) - 1 - ((r : Int) - A) = ((B - 1 - (r - A) : Nat) : Int) := by omega
  generalize B - 1 - (r - A) = r' at *
  cases wb <;> cases wp <;>
  simp -implicitDefEqProofs (maxSteps := 1000000) (disch := omega) only [push_cast, ↓dstAt_zero, ↓dstAt_succ, ↓arun_skip, ↓arun_region, ↓arun_seq, ↓arun_cond, ↓arun_block, ↓arun_loop, ↓arun_exit, ↓arun_ret, aops_nil, aops_cons, aops_cons_guard, ↓putA_some, ↓putA_none, ↓aop_move, ↓aop_assign, ↓aop_pick, ↓aop_alloc, ↓aop_box, ↓aop_build, ↓aop_buildSlice, ↓aop_load, ↓aop_store, ↓aop_nilCheck, ↓aop_binOp, ↓aop_unOp, ↓aop_convert, ↓aop_makeSlice, ↓aop_fieldAddr, ↓aop_field, ↓aop_indexAddr, ↓aop_index, ↓aop_lookup, ↓aop_mapUpdate, ↓aop_insert, ↓aop_extract, ↓aop_callB, ↓aop_callF, ↓aop_callT, ↓aop_makeFunc, ↓aop_makeMap, ↓aop_slice, ↓aevs_nil, ↓aevs_cons, ↓evP_nil, ↓evP_cons, ↓aevO_none, ↓aevO_some, ↓reduceIte, reduceCtorEq, Nat.reduceEqDiff, Nat.reduceAdd, Nat.reduceLT, Nat.reduceSub, Nat.reduceMul, Nat.reduceLeDiff, if_true, if_false, if_pos, if_neg, runL_nil, runL_cons, thenL_normal, thenL_ret, thenL_exit, e47b, e47c, hc, e, Bool.and_false, Bool.false_and]
theorem st47_3b (hh : hint ≠ 2) : ∃ t, run47 [p9, p10] (e47b b ver n F A B lim wb wp r hint) H = some (.normal, e47c b ver n F A B lim wb wp r t, H) := by
  cases h9; cases h10
  refine ⟨wb && wp && decide (hint = 1), ?_⟩
  cases wb <;> cases wp <;>
  simp -implicitDefEqProofs (maxSteps := 1000000) (disch := omega) only [push_cast, ↓dstAt_zero, ↓dstAt_succ, ↓arun_skip, ↓arun_region, ↓arun_seq, ↓arun_cond, ↓arun_block, ↓arun_loop, ↓arun_exit, ↓arun_ret, aops_nil, aops_cons, aops_cons_guard, ↓putA_some, ↓putA_none, ↓aop_move, ↓aop_assign, ↓aop_pick, ↓aop_alloc, ↓aop_box, ↓aop_build, ↓aop_buildSlice, ↓aop_load, ↓aop_store, ↓aop_nilCheck, ↓aop_binOp, ↓aop_unOp, ↓aop_convert, ↓aop_makeSlice, ↓aop_fieldAddr, ↓aop_field, ↓aop_indexAddr, ↓aop_index, ↓aop_lookup, ↓aop_mapUpdate, ↓aop_insert, ↓aop_extract, ↓aop_callB, ↓aop_callF, ↓aop_callT, ↓aop_makeFunc, ↓aop_makeMap, ↓aop_slice, ↓aevs_nil, ↓aevs_cons, ↓evP_nil, ↓evP_cons, ↓aevO_none, ↓aevO_some, ↓reduceIte, reduceCtorEq, Nat.reduceEqDiff, Nat.reduceAdd, Nat.reduceLT, Nat.reduceSub, Nat.reduceMul, Nat.reduceLeDiff, if_true, if_false, if_pos, if_neg, runL_nil, runL_cons, thenL_normal, thenL_ret, thenL_exit, e47b, e47c, Bool.and_false, Bool.false_and]
end
section
variable {α : Type} {en : α → AV} (hE : El en) {c : α → α → Int} (hF : Try.cfg.shared F = false) (hcc : ∀ x y, call Try.cfg F [en x, en y] [] = some (.v (.int .i64 (c x y)), [])) {H : Heap} (hb : b < H.length) {p11 p12 : Code} (h11 : p47 11 = some p11) (h12 : p47 12 = some p12) {r : Nat} {l l' : List α} {x y : α}
include hE hF hcc hb h11 h12
theorem st47_4a (hc : call Try.cfg 57 [.ms b ver 0 n 1, .v (.int .i64 A), .v (.int .i64 B), .fn F []] (hs en H b ver l) = some (.v (.bool true), hs en H b ver l')) :
    run47 [p11, p12] (e47c b ver n F A B lim wb wp r true) (hs en H b ver l) = some (.ret, [], hs en H b ver l') := by
  cases h11; cases h12
  simp -implicitDefEqProofs (maxSteps := 1000000) (disch := omega) only [push_cast, ↓dstAt_zero, ↓dstAt_succ, ↓arun_skip, ↓arun_region, ↓arun_seq, ↓arun_cond, ↓arun_block, ↓arun_loop, ↓arun_exit, ↓arun_ret, aops_nil, aops_cons, aops_cons_guard, ↓putA_some, ↓putA_none, ↓aop_move, ↓aop_assign, ↓aop_pick, ↓aop_alloc, ↓aop_box, ↓aop_build, ↓aop_buildSlice, ↓aop_load, ↓aop_store, ↓aop_nilCheck, ↓aop_binOp, ↓aop_unOp, ↓aop_convert, ↓aop_makeSlice, ↓aop_fieldAddr, ↓aop_field, ↓aop_indexAddr, ↓aop_index, ↓aop_lookup, ↓aop_mapUpdate, ↓aop_insert, ↓aop_extract, ↓aop_callB, ↓aop_callF, ↓aop_callT, ↓aop_makeFunc, ↓aop_makeMap, ↓aop_slice, ↓aevs_nil, ↓aevs_cons, ↓evP_nil, ↓evP_cons, ↓aevO_none, ↓aevO_some, ↓reduceIte, reduceCtorEq, Nat.reduceEqDiff, Nat.reduceAdd, Nat.reduceLT, Nat.reduceSub, Nat.reduceMul, Nat.reduceLeDiff, if_true, if_false, if_pos, if_neg, runL_nil, runL_cons, thenL_normal, thenL_ret, thenL_exit, e47c, hc]
/-- What the test for equal elements says. -/
def eqT (c : α → α → Int) (A : Nat) (lo p : α) : Bool := decide (0 < A) && !decide (c lo p < 0)
theorem st47_4b (hl : l'.length = n) (hx : 0 < A → l'[A - 1]? = some x) (hy : l'[r]? = some y) (hc : call Try.cfg 57 [.ms b ver 0 n 1, .v (.int .i64 A), .v (.int .i64 B), .fn F []] (hs en H b ver l) = some (.v (.bool false), hs en H b ver l')) :
    run47 [p11, p12] (e47c b ver n F A B lim wb wp r true) (hs en H b ver l) = some (.normal, e47d b ver n F A B lim wb wp r (eqT c A x y), hs en H b ver l') := by
  cases h11; cases h12
  have hr := lt_of_get hy
  cases A with
  | zero =>
    simp only [Int.natCast_zero] at hc
    simp -implicitDefEqProofs (maxSteps := 1000000) (disch := omega) only [push_cast, ↓dstAt_zero, ↓dstAt_succ, ↓arun_skip, ↓arun_region, ↓arun_seq, ↓arun_cond, ↓arun_block, ↓arun_loop, ↓arun_exit, ↓arun_ret, aops_nil, aops_cons, aops_cons_guard, ↓putA_some, ↓putA_none, ↓aop_move, ↓aop_assign, ↓aop_pick, ↓aop_alloc, ↓aop_box, ↓aop_build, ↓aop_buildSlice, ↓aop_load, ↓aop_store, ↓aop_nilCheck, ↓aop_binOp, ↓aop_unOp, ↓aop_convert, ↓aop_makeSlice, ↓aop_fieldAddr, ↓aop_field, ↓aop_indexAddr, ↓aop_index, ↓aop_lookup, ↓aop_mapUpdate, ↓aop_insert, ↓aop_extract, ↓aop_callB, ↓aop_callF, ↓aop_callT, ↓aop_makeFunc, ↓aop_makeMap, ↓aop_slice, ↓aevs_nil, ↓aevs_cons, ↓evP_nil, ↓evP_cons, ↓aevO_none, ↓aevO_some, ↓reduceIte, reduceCtorEq, Nat.reduceEqDiff, Nat.reduceAdd, Nat.reduceLT, Nat.reduceSub, Nat.reduceMul, Nat.reduceLeDiff, if_true, if_false, if_pos, if_neg, runL_nil, runL_cons, thenL_normal, thenL_ret, thenL_exit, e47c, e47d, hc, eqT, Int.natCast_zero, Int.lt_irrefl, Nat.lt_irrefl, Bool.false_and]
  | succ A' =>
    have hx := hx (by omega)
    simp only [Nat.add_sub_cancel] at hx
    simp only [Int.natCast_add, Int.natCast_one] at hc
    simp -implicitDefEqProofs (maxSteps := 1000000) (disch := omega) only [push_cast, ↓dstAt_zero, ↓dstAt_succ, ↓arun_skip, ↓arun_region, ↓arun_seq, ↓arun_cond, ↓arun_block, ↓arun_loop, ↓arun_exit, ↓arun_ret, aops_nil, aops_cons, aops_cons_guard, ↓putA_some, ↓putA_none, ↓aop_move, ↓aop_assign, ↓aop_pick, ↓aop_alloc, ↓aop_box, ↓aop_build, ↓aop_buildSlice, ↓aop_load, ↓aop_store, ↓aop_nilCheck, ↓aop_binOp, ↓aop_unOp, ↓aop_convert, ↓aop_makeSlice, ↓aop_fieldAddr, ↓aop_field, ↓aop_indexAddr, ↓aop_index, ↓aop_lookup, ↓aop_mapUpdate, ↓aop_insert, ↓aop_extract, ↓aop_callB, ↓aop_callF, ↓aop_callT, ↓aop_makeFunc, ↓aop_makeMap, ↓aop_slice, ↓aevs_nil, ↓aevs_cons, ↓evP_nil, ↓evP_cons, ↓aevO_none, ↓aevO_some, ↓reduceIte, reduceCtorEq, Nat.reduceEqDiff, Nat.reduceAdd, Nat.reduceLT, Nat.reduceSub, Nat.reduceMul, Nat.reduceLeDiff, if_true, if_false, if_pos, if_neg, runL_nil, runL_cons, thenL_normal, thenL_ret, thenL_exit, e47c, e47d, hc, eqT, hs_get, ↓closeA_en hE, hF, hcc, tn1, Int.add_sub_cancel, hx, hy, Nat.zero_lt_succ]
theorem st47_4c (hl : l.length = n) (hx : 0 < A → l[A - 1]? = some x) (hy : l[r]? = some y) :
    run47 [p11, p12] (e47c b ver n F A B lim wb wp r false) (hs en H b ver l) = some (.normal, e47d b ver n F A B lim wb wp r (eqT c A x y), hs en H b ver l) := by
  cases h11; cases h12
  have hr := lt_of_get hy
  cases A with
  | zero =>
    simp -implicitDefEqProofs (maxSteps := 1000000) (disch := omega) only [push_cast, ↓dstAt_zero, ↓dstAt_succ, ↓arun_skip, ↓arun_region, ↓arun_seq, ↓arun_cond, ↓arun_block, ↓arun_loop, ↓arun_exit, ↓arun_ret, aops_nil, aops_cons, aops_cons_guard, ↓putA_some, ↓putA_none, ↓aop_move, ↓aop_assign, ↓aop_pick, ↓aop_alloc, ↓aop_box, ↓aop_build, ↓aop_buildSlice, ↓aop_load, ↓aop_store, ↓aop_nilCheck, ↓aop_binOp, ↓aop_unOp, ↓aop_convert, ↓aop_makeSlice, ↓aop_fieldAddr, ↓aop_field, ↓aop_indexAddr, ↓aop_index, ↓aop_lookup, ↓aop_mapUpdate, ↓aop_insert, ↓aop_extract, ↓aop_callB, ↓aop_callF, ↓aop_callT, ↓aop_makeFunc, ↓aop_makeMap, ↓aop_slice, ↓aevs_nil, ↓aevs_cons, ↓evP_nil, ↓evP_cons, ↓aevO_none, ↓aevO_some, ↓reduceIte, reduceCtorEq, Nat.reduceEqDiff, Nat.reduceAdd, Nat.reduceLT, Nat.reduceSub, Nat.reduceMul, Nat.reduceLeDiff, if_true, if_false, if_pos, if_neg, runL_nil, runL_cons, thenL_normal, thenL_ret, thenL_exit, e47c, e47d, eqT, Int.natCast_zero, Int.lt_irrefl, Nat.lt_irrefl, Bool.false_and]
  | succ A' =>
    have hx := hx (by omega)
    simp only [Nat.add_sub_cancel] at hx
    simp -implicitDefEqProofs (maxSteps := 1000000) (disch := omega) only [push_cast, ↓dstAt_zero, ↓dstAt_succ, ↓arun_skip, ↓arun_region, ↓arun_seq, ↓arun_cond, ↓arun_block, ↓arun_loop, ↓arun_exit, ↓arun_ret, aops_nil, aops_cons, aops_cons_guard, ↓putA_some, ↓putA_none, ↓aop_move, ↓aop_assign, ↓aop_pick, ↓aop_alloc, ↓aop_box, ↓aop_build, ↓aop_buildSlice, ↓aop_load, ↓aop_store, ↓aop_nilCheck, ↓aop_binOp, ↓aop_unOp, ↓aop_convert, ↓aop_makeSlice, ↓aop_fieldAddr, ↓aop_field, ↓aop_indexAddr, ↓aop_index, ↓aop_lookup, ↓aop_mapUpdate, ↓aop_insert, ↓aop_extract, ↓aop_callB, ↓aop_callF, ↓aop_callT, ↓aop_makeFunc, ↓aop_makeMap, ↓aop_slice, ↓aevs_nil, ↓aevs_cons, ↓evP_nil, ↓evP_cons, ↓aevO_none, ↓aevO_some, ↓reduceIte, reduceCtorEq, Nat.reduceEqDiff, Nat.reduceAdd, Nat.reduceLT, Nat.reduceSub, Nat.reduceMul, Nat.reduceLeDiff, if_true, if_false, if_pos, if_neg, runL_nil, runL_cons, thenL_normal, thenL_ret, thenL_exit, e47c, e47d, eqT, hs_get, ↓closeA_en hE, hF, hcc, tn1, Int.add_sub_cancel, hx, hy, Nat.zero_lt_succ]
end
section
variable {p13 p14 p15 p16 p17 p18 p19 : Code} (h13 : p47 13 = some p13) (h14 : p47 14 = some p14) (h15 : p47 15 = some p15) (h16 : p47 16 = some p16) (h17 : p47 17 = some p17) (h18 : p47 18 = some p18) (h19 : p47 19 = some p19) {r m thr : Nat} {fl : Bool}
include h13 h14 h15 h16 h17 h18 h19
theorem st47_5a (hc : call Try.cfg 58 [.ms b ver 0 n 1, .v (.int .i64 A), .v (.int .i64 B), .v (.int .i64 r), .fn F []] H = some (.v (.int .i64 m), H')) :
    run47 [p13, p14, p15, p16, p17, p18, p19] (e47d b ver n F A B lim wb wp r true) H = some (.exit 1, e47 b ver n F m B lim wb wp, H') := by
  cases h13; cases h14; cases h15; cases h16; cases h17; cases h18; cases h19
  simp -implicitDefEqProofs (maxSteps := 1000000) (disch := omega) only [push_cast, ↓dstAt_zero, ↓dstAt_succ, ↓arun_skip, ↓arun_region, ↓arun_seq, ↓arun_cond, ↓arun_block, ↓arun_loop, ↓arun_exit, ↓arun_ret, aops_nil, aops_cons, aops_cons_guard, ↓putA_some, ↓putA_none, ↓aop_move, ↓aop_assign, ↓aop_pick, ↓aop_alloc, ↓aop_box, ↓aop_build, ↓aop_buildSlice, ↓aop_load, ↓aop_store, ↓aop_nilCheck, ↓aop_binOp, ↓aop_unOp, ↓aop_convert, ↓aop_makeSlice, ↓aop_fieldAddr, ↓aop_field, ↓aop_indexAddr, ↓aop_index, ↓aop_lookup, ↓aop_mapUpdate, ↓aop_insert, ↓aop_extract, ↓aop_callB, ↓aop_callF, ↓aop_callT, ↓aop_makeFunc, ↓aop_makeMap, ↓aop_slice, ↓aevs_nil, ↓aevs_cons, ↓evP_nil, ↓evP_cons, ↓aevO_none, ↓aevO_some, ↓reduceIte, reduceCtorEq, Nat.reduceEqDiff, Nat.reduceAdd, Nat.reduceLT, Nat.reduceSub, Nat.reduceMul, Nat.reduceLeDiff, if_true, if_false, if_pos, if_neg, runL_nil, runL_cons, thenL_normal, thenL_ret, thenL_exit, e47d, e47, hc]
theorem st47_5b (hm : A ≤ m) (hm' : m < B) (ht : ((B : Int) - A).tdiv 8 = thr) (ht' : thr ≤ n) (hc : call Try.cfg 59 [.ms b ver 0 n 1, .v (.int .i64 A), .v (.int .i64 B), .v (.int .i64 r), .fn F []] H = some (.tu [.v (.int .i64 m), .v (.bool fl)], H')) :
    run47 [p13, p14, p15, p16, p17, p18] (e47d b ver n F A B lim wb wp r false) H = some (.normal, e47e b ver n F A B m thr lim fl, H') := by
  cases h13; cases h14; cases h15; cases h16; cases h17; cases h18
  simp -implicitDefEqProofs (maxSteps := 1000000) (disch := omega) only [push_cast, ↓dstAt_zero, ↓dstAt_succ, ↓arun_skip, ↓arun_region, ↓arun_seq, ↓arun_cond, ↓arun_block, ↓arun_loop, ↓arun_exit, ↓arun_ret, aops_nil, aops_cons, aops_cons_guard, ↓putA_some, ↓putA_none, ↓aop_move, ↓aop_assign, ↓aop_pick, ↓aop_alloc, ↓aop_box, ↓aop_build, ↓aop_buildSlice, ↓aop_load, ↓aop_store, ↓aop_nilCheck, ↓aop_binOp, ↓aop_unOp, ↓aop_convert, ↓aop_makeSlice, ↓aop_fieldAddr, ↓aop_field, ↓aop_indexAddr, ↓aop_index, ↓aop_lookup, ↓aop_mapUpdate, ↓aop_insert, ↓aop_extract, ↓aop_callB, ↓aop_callF, ↓aop_callT, ↓aop_makeFunc, ↓aop_makeMap, ↓aop_slice, ↓aevs_nil, ↓aevs_cons, ↓evP_nil, ↓evP_cons, ↓aevO_none, ↓aevO_some, ↓reduceIte, reduceCtorEq, Nat.reduceEqDiff, Nat.reduceAdd, Nat.reduceLT, Nat.reduceSub, Nat.reduceMul, Nat.reduceLeDiff, if_true, if_false, if_pos, if_neg, runL_nil, runL_cons, thenL_normal, thenL_ret, thenL_exit, e47d, e47e, hc, abin_quo, ht]
theorem st47_6a (hm : A ≤ m) (hm' : m < B) (hlt : (m : Int) - A < B - m) (hc : call Try.cfg 47 [.ms b ver 0 n 1, .v (.int .i64 A), .v (.int .i64 m), .v (.int .i64 lim), .fn F []] H = some (.tu [], H')) :
    run47 [p19] (e47e b ver n F A B m thr lim fl) H = some (.normal, e47 b ver n F (m + 1) B lim (decide ((thr : Int) ≤ (m : Int) - A)) fl, H') := by
  cases h19
  simp -implicitDefEqProofs (maxSteps := 1000000) (disch := omega) only [push_cast, ↓dstAt_zero, ↓dstAt_succ, ↓arun_skip, ↓arun_region, ↓arun_seq, ↓arun_cond, ↓arun_block, ↓arun_loop, ↓arun_exit, ↓arun_ret, aops_nil, aops_cons, aops_cons_guard, ↓putA_some, ↓putA_none, ↓aop_move, ↓aop_assign, ↓aop_pick, ↓aop_alloc, ↓aop_box, ↓aop_build, ↓aop_buildSlice, ↓aop_load, ↓aop_store, ↓aop_nilCheck, ↓aop_binOp, ↓aop_unOp, ↓aop_convert, ↓aop_makeSlice, ↓aop_fieldAddr, ↓aop_field, ↓aop_indexAddr, ↓aop_index, ↓aop_lookup, ↓aop_mapUpdate, ↓aop_insert, ↓aop_extract, ↓aop_callB, ↓aop_callF, ↓aop_callT, ↓aop_makeFunc, ↓aop_makeMap, ↓aop_slice, ↓aevs_nil, ↓aevs_cons, ↓evP_nil, ↓evP_cons, ↓aevO_none, ↓aevO_some, ↓reduceIte, reduceCtorEq, Nat.reduceEqDiff, Nat.reduceAdd, Nat.reduceLT, Nat.reduceSub, Nat.reduceMul, Nat.reduceLeDiff, if_true, if_false, if_pos, if_neg, runL_nil, runL_cons, thenL_normal, thenL_ret, thenL_exit, e47, e47e, hc]
theorem st47_6b (hm : A ≤ m) (hm' : m < B) (hlt : ¬ (m : Int) - A < B - m) (hc : call Try.cfg 47 [.ms b ver 0 n 1, .v (.int .i64 ((m : Int) + 1)), .v (.int .i64 B), .v (.int .i64 lim), .fn F []] H = some (.tu [], H')) :
    run47 [p19] (e47e b ver n F A B m thr lim fl) H = some (.normal, e47 b ver n F A m lim (decide ((thr : Int) ≤ (B : Int) - m)) fl, H') := by
  cases h19
  simp -implicitDefEqProofs (maxSteps := 1000000) (disch := omega) only [push_cast, ↓dstAt_zero, ↓dstAt_succ, ↓arun_skip, ↓arun_region, ↓arun_seq, ↓arun_cond, ↓arun_block, ↓arun_loop, ↓arun_exit, ↓arun_ret, aops_nil, aops_cons, aops_cons_guard, ↓putA_some, ↓putA_none, ↓aop_move, ↓aop_assign, ↓aop_pick, ↓aop_alloc, ↓aop_box, ↓aop_build, ↓aop_buildSlice, ↓aop_load, ↓aop_store, ↓aop_nilCheck, ↓aop_binOp, ↓aop_unOp, ↓aop_convert, ↓aop_makeSlice, ↓aop_fieldAddr, ↓aop_field, ↓aop_indexAddr, ↓aop_index, ↓aop_lookup, ↓aop_mapUpdate, ↓aop_insert, ↓aop_extract, ↓aop_callB, ↓aop_callF, ↓aop_callT, ↓aop_makeFunc, ↓aop_makeMap, ↓aop_slice, ↓aevs_nil, ↓aevs_cons, ↓evP_nil, ↓evP_cons, ↓aevO_none, ↓aevO_some, ↓reduceIte, reduceCtorEq, Nat.reduceEqDiff, Nat.reduceAdd, Nat.reduceLT, Nat.reduceSub, Nat.reduceMul, Nat.reduceLeDiff, if_true, if_false, if_pos, if_neg, runL_nil, runL_cons, thenL_normal, thenL_ret, thenL_exit, e47, e47e, hc]
end
end
end Go.Proofs

/- slices.pdqsort, slices.SortFunc. -/
set_option linter.unusedVariables false
set_option linter.unusedSimpArgs false
set_option linter.unusedSectionVars false
namespace Go.Proofs
open Go.AI
set_option maxRecDepth 20000
set_option maxHeartbeats 4000000
/-- The end of a round. -/
def fin47 (q : Option (Ex × St)) : Option (Ex × St) := obind (blockA 1 none q) (endA (some ([0, 1, 2, 3, 4, 10, 11], [], [], none, [])))
/-- A round, by its pieces. -/
theorem round47 {a : Code} (h : loopOf 0 Try.f47 = some a) : ∃ p0 p1 p2 p3 p4 p5 p6 p7 p8 p9 p10 p11 p12 p13 p14 p15 p16 p17 p18 p19 : Code,
    p47 0 = some p0 ∧ p47 1 = some p1 ∧ p47 2 = some p2 ∧ p47 3 = some p3 ∧ p47 4 = some p4 ∧ p47 5 = some p5 ∧ p47 6 = some p6 ∧ p47 7 = some p7 ∧ p47 8 = some p8 ∧ p47 9 = some p9 ∧ p47 10 = some p10 ∧ p47 11 = some p11 ∧ p47 12 = some p12 ∧ p47 13 = some p13 ∧ p47 14 = some p14 ∧ p47 15 = some p15 ∧ p47 16 = some p16 ∧ p47 17 = some p17 ∧ p47 18 = some p18 ∧ p47 19 = some p19 ∧
    ∀ (e : Env) (H : Heap), roundA Try.cfg 47 iter (call Try.cfg) 0 a (e, H) = fin47 (run47 ([p0, p1, p2, p3, p4, p5] ++ ([p6, p7, p8] ++ ([p9, p10] ++ ([p11, p12] ++ [p13, p14, p15, p16, p17, p18, p19])))) e H) := by
  cases h
  refine ⟨_, _, _, _, _, _, _, _, _, _, _, _, _, _, _, _, _, _, _, _, rfl, rfl, rfl, rfl, rfl, rfl, rfl, rfl, rfl, rfl, rfl, rfl, rfl, rfl, rfl, rfl, rfl, rfl, rfl, rfl, fun e H => ?_⟩
  unfold roundA fin47
  rw [Try.ann47_0, arun_block, Try.ann47_1, arun_flat]
  rfl
theorem end47 (b ver n : Nat) (F : FuncId) (A B : Nat) (lim : Int) (wb wp : Bool) (H : Heap) : fin47 (some (.normal, e47 b ver n F A B lim wb wp, H)) = some (.normal, e47 b ver n F A B lim wb wp, H) := rfl
theorem end47' (b ver n : Nat) (F : FuncId) (A B : Nat) (lim : Int) (wb wp : Bool) (H : Heap) : fin47 (some (.exit 1, e47 b ver n F A B lim wb wp, H)) = some (.normal, e47 b ver n F A B lim wb wp, H) := rfl
theorem end47r (H : Heap) : fin47 (some (.ret, [], H)) = some (.ret, [], H) := rfl
section
variable {α : Type} {en : α → AV} (hE : El en) {c : α → α → Int} {F : FuncId} (hF : Try.cfg.shared F = false) (hc : ∀ x y, call Try.cfg F [en x, en y] [] = some (.v (.int .i64 (c x y)), [])) {b ver n : Nat}
/-- All from A to B are at least the one ahead of them. -/
def Low (c : α → α → Int) (A B : Nat) (l : List α) : Prop := 0 < A → ∃ lo, l[A - 1]? = some lo ∧ ∀ k x, A ≤ k → k < B → l[k]? = some x → le' c lo x
theorem Low.perm {A B : Nat} {l l' : List α} (h : Low c A B l) (hP : PermOn A B l l') (hAB : A ≤ B) : Low c A B l' := fun h0 => by
  obtain ⟨lo, h1, h2⟩ := h h0
  exact ⟨lo, by rw [hP.out (A - 1) (by omega)]; exact h1, fun k x q1 q2 q3 => hP.all hAB (Q := fun z => le' c lo z) (fun q z g1 g2 g3 => h2 q z g1 g2 g3) q1 q2 q3⟩
theorem Low.getD {A B : Nat} {l : List α} (h : Low c A B l) (x : α) : ∃ lo, 0 < A → l[A - 1]? = some lo ∧ ∀ k x, A ≤ k → k < B → l[k]? = some x → le' c lo x := by
  by_cases h0 : 0 < A
  · obtain ⟨lo, h1⟩ := h h0
    exact ⟨lo, fun _ => h1⟩
  · exact ⟨x, fun e => absurd e h0⟩
theorem glue47 (hC : Cmp c) {l : List α} {A B m : Nat} {p : α} (hp : l[m]? = some p) (h1 : SortedOn c A m l) (h2 : SortedOn c (m + 1) B l) (h3 : ∀ k x, A ≤ k → k < m → l[k]? = some x → c x p < 0) (h4 : ∀ k x, m < k → k < B → l[k]? = some x → ¬ c x p < 0) : SortedOn c A B l := by
  intro i j x y t1 t2 t3 t4 t5
  rcases Nat.lt_trichotomy j m with e | e | e
  · exact h1 i j x y t1 t2 e t4 t5
  · rw [e, hp] at t5
    cases t5
    exact hC.asym _ _ (h3 i x t1 (by omega) t4)
  · rcases Nat.lt_trichotomy i m with e2 | e2 | e2
    · exact hC.tr _ _ _ (hC.asym _ _ (h3 i x t1 e2 t4)) (h4 j y e t3 t5)
    · rw [e2, hp] at t4
      cases t4
      exact h4 j y e t3 t5
    · exact h2 i j x y (by omega) t2 t3 t4 t5
include hE hF hc
/-- What is shown of the loop, by the length of what is left. -/
def Loop47 (en : α → AV) (c : α → α → Int) (F : FuncId) (n : Nat) (m : Nat) : Prop := ∀ (b ver : Nat) (H : Heap) (a : Code) (l : List α) (A B : Nat) (lim : Int) (wb wp : Bool), loopOf 0 Try.f47 = some a → b < H.length → l.length = n → A ≤ B → B ≤ n → B - A ≤ m → 0 ≤ lim → lim ≤ 100 → Low c A B l →
    ∃ l' X, iter (roundA Try.cfg 47 iter (call Try.cfg) 0 a) (e47 b ver n F A B lim wb wp, hs en H b ver l) = some (.ret, [], hs en (H ++ X) b ver l') ∧ PermOn A B l l' ∧ SortedOn c A B l'
omit hE hF hc in
theorem call47_of {m : Nat} (hn : n ≤ 1000) (hL : Loop47 en c F n m) {H : Heap} {l : List α} {A B : Nat} {lim : Int} (hb : b < H.length) (hl : l.length = n) (hA : A ≤ B) (hB : B ≤ n) (hm : B - A ≤ m) (h0 : 0 ≤ lim) (h1 : lim ≤ 100) (hlo : Low c A B l) :
    ∃ l' X, call Try.cfg 47 [.ms b ver 0 n 1, .v (.int .i64 A), .v (.int .i64 B), .v (.int .i64 lim), .fn F []] (hs en H b ver l) = some (.tu [], hs en (H ++ X) b ver l') ∧ PermOn A B l l' ∧ SortedOn c A B l' := by
  cases hlp : loopOf 0 Try.f47 with
  | none => cases hlp
  | some a =>
    obtain ⟨l', X, g1, g2, g3⟩ := hL b ver H a l A B lim true true hlp hb hl hA hB hm h0 h1 hlo
    refine ⟨l', X, call_step ?_, g2, g3⟩
    cases hlp
    simp only [e47] at g1
    simp -implicitDefEqProofs (maxSteps := 1000000) (disch := omega) only [stepA, bodyA, Try.f47, push_cast, ↓dstAt_zero, ↓dstAt_succ, ↓arun_skip, ↓arun_region, ↓arun_seq, ↓arun_cond, ↓arun_block, ↓arun_loop, ↓arun_exit, ↓arun_ret, aops_nil, aops_cons, aops_cons_guard, ↓putA_some, ↓putA_none, ↓aop_move, ↓aop_assign, ↓aop_pick, ↓aop_alloc, ↓aop_box, ↓aop_build, ↓aop_buildSlice, ↓aop_load, ↓aop_store, ↓aop_nilCheck, ↓aop_binOp, ↓aop_unOp, ↓aop_convert, ↓aop_makeSlice, ↓aop_fieldAddr, ↓aop_field, ↓aop_indexAddr, ↓aop_index, ↓aop_lookup, ↓aop_mapUpdate, ↓aop_insert, ↓aop_extract, ↓aop_callB, ↓aop_callF, ↓aop_callT, ↓aop_makeFunc, ↓aop_makeMap, ↓aop_slice, ↓aevs_nil, ↓aevs_cons, ↓evP_nil, ↓evP_cons, ↓aevO_none, ↓aevO_some, ↓reduceIte, reduceCtorEq, Nat.reduceEqDiff, Nat.reduceAdd, Nat.reduceLT, Nat.reduceSub, Nat.reduceMul, Nat.reduceLeDiff, if_true, if_false, if_pos, if_neg, g1]
theorem loop47 (hC : Cmp c) (hn : n ≤ 1000) : ∀ m, Loop47 en c F n m := by
  intro m
  induction m using Nat.strongRecOn with
  | ind m ih =>
    intro b ver H a l A B lim wb wp ha hb hl hA hB hm h0 h1 hlo
    have hn' : n ≤ 1000000 := by omega
    obtain ⟨p0, p1, p2, p3, p4, p5, p6, p7, p8, p9, p10, p11, p12, p13, p14, p15, p16, p17, p18, p19, q0, q1, q2, q3, q4, q5, q6, q7, q8, q9, q10, q11, q12, q13, q14, q15, q16, q17, q18, q19, hr⟩ := round47 ha
    by_cases h12 : B ≤ A + 12
    · obtain ⟨l', g1, g2, g3⟩ := call52 (ver := ver) hE hF hc hb hC hl hn' hA hB
      refine ⟨l', [], iter_last ?_ (by simp), g2, g3⟩
      rw [List.append_nil]
      exact (hr _ _).trans (congrArg fin47 (runL_stop (st47_1a hn hA hB q0 q1 q2 q3 q4 q5 h12 g1) (by simp)))
    by_cases hl0 : lim = 0
    · obtain ⟨l', g1, g2, g3⟩ := call53 (ver := ver) hE hF hc hb hC hl hn' (show A < B by omega) hB
      refine ⟨l', [], iter_last ?_ (by simp), g2, g3⟩
      rw [List.append_nil]
      exact (hr _ _).trans (congrArg fin47 (runL_stop (st47_1b hn hA hB q0 q1 q2 q3 q4 q5 (by omega) hl0 g1) (by simp)))
    have s1 := st47_1c (F := F) (H := hs en H b ver l) (b := b) (ver := ver) (wb := wb) (wp := wp) hn hA hB q0 q1 q2 q3 q4 q5 (by omega) hl0
    -- the pivot
    obtain ⟨l1, X1, r, hint, lim1, s2, hP1, hr1, hr2, hh, k1, k2⟩ : ∃ (l1 : List α) (X1 : Heap) (r : Nat) (hint lim1 : Int), run47 [p6, p7, p8] (e47a b ver n F A B lim wb wp) (hs en H b ver l) = some (.normal, e47b b ver n F A B lim1 wb wp r hint, hs en (H ++ X1) b ver l1) ∧ PermOn A B l l1 ∧ A ≤ r ∧ r < B ∧ (hint = 0 ∨ hint = 1 ∨ hint = 2) ∧ 0 ≤ lim1 ∧ lim1 ≤ 100 := by
      cases hw : wb with
      | true =>
        obtain ⟨r, s, hint, g1, g2, g3, g4⟩ := call55 (ver := ver) hE hF hc hb hl hn' (show A + 12 < B by omega) hB
        exact ⟨l, _, r, hint, lim, st47_2a hn hA hB q6 q7 q8 h0 h1 rfl g1, PermOn.refl _ _ _, g2, g3, g4, h0, h1⟩
      | false =>
        obtain ⟨l1, x, f1, f2⟩ := call54 (ver := ver) (F := F) hE hb hl hn (show A + 12 < B by omega) hB
        obtain ⟨r, s, hint, g1, g2, g3, g4⟩ := call55 (ver := ver) (H := H ++ [.cells true 0 [U x]]) (b := b) hE hF hc (by simp; omega) (by rw [f2.length]; exact hl) hn' (show A + 12 < B by omega) hB
        refine ⟨l1, [.cells true 0 [U x]] ++ [.cells true 0 [I s]], r, hint, lim - 1, ?_, f2, g2, g3, g4, by omega, by omega⟩
        rw [← List.append_assoc]
        exact st47_2b hn hA hB q6 q7 q8 h0 h1 rfl f1 g1
    have hb1 : b < (H ++ X1).length := by simp; omega
    generalize hX : H ++ X1 = H1 at *
    have hl1 : l1.length = n := by rw [hP1.length]; exact hl
    have hlo1 := hlo.perm hP1 hA
    -- the turn
    obtain ⟨l2, r2, t, s3, hP2, hr3, hr4⟩ : ∃ (l2 : List α) (r2 : Nat) (t : Bool), run47 [p9, p10] (e47b b ver n F A B lim1 wb wp r hint) (hs en H1 b ver l1) = some (.normal, e47c b ver n F A B lim1 wb wp r2 t, hs en H1 b ver l2) ∧ PermOn A B l1 l2 ∧ A ≤ r2 ∧ r2 < B := by
      by_cases h2 : hint = 2
      · obtain ⟨l2, g1, g2⟩ := call56 (ver := ver) hE hF hc hb1 hl1 hn' (show A < B by omega) hB
        exact ⟨l2, _, _, st47_3a hn hA hB q9 q10 hr1 hr2 h2 g1, g2, by omega, by omega⟩
      · obtain ⟨t, g1⟩ := st47_3b (H := hs en H1 b ver l1) (F := F) (ver := ver) (b := b) (lim := lim1) (wb := wb) (wp := wp) hn hA hB q9 q10 hr1 hr2 h2
        exact ⟨l1, r, t, g1, PermOn.refl _ _ _, hr1, hr2⟩
    have hl2 : l2.length = n := by rw [hP2.length]; exact hl1
    have hlo2 := hlo1.perm hP2 hA
    have hx0 : l2[r2]? = some l2[r2] := List.getElem?_eq_getElem (by omega)
    generalize l2[r2] = x0 at hx0
    obtain ⟨lo, hlo'⟩ := hlo2.getD x0
    -- is it sorted already?
    have S4 : (∃ l', run47 [p11, p12] (e47c b ver n F A B lim1 wb wp r2 t) (hs en H1 b ver l2) = some (.ret, [], hs en H1 b ver l') ∧ PermOn A B l2 l' ∧ SortedOn c A B l') ∨
        ∃ l3 p lo3, run47 [p11, p12] (e47c b ver n F A B lim1 wb wp r2 t) (hs en H1 b ver l2) = some (.normal, e47d b ver n F A B lim1 wb wp r2 (eqT c A lo3 p), hs en H1 b ver l3) ∧ PermOn A B l2 l3 ∧ l3[r2]? = some p ∧ (0 < A → l3[A - 1]? = some lo3 ∧ ∀ k x, A ≤ k → k < B → l3[k]? = some x → le' c lo3 x) := by
      cases t with
      | false => exact Or.inr ⟨l2, x0, lo, st47_4c hn hA hB hE hF hc hb1 q11 q12 hl2 (fun h => (hlo' h).1) hx0, PermOn.refl _ _ _, hx0, hlo'⟩
      | true =>
        obtain ⟨l3, t3, g1, g2, g3⟩ := call57 (ver := ver) hE hF hc hb1 hC hl2 hn' (show A < B by omega) hB hlo'
        have hl3 : l3.length = n := by rw [g2.length]; exact hl2
        cases t3 with
        | true => exact Or.inl ⟨l3, st47_4a hn hA hB hE hF hc hb1 q11 q12 g1, g2, g3 rfl⟩
        | false =>
          have hx3 : l3[r2]? = some l3[r2] := List.getElem?_eq_getElem (by omega)
          generalize l3[r2] = x3 at hx3
          obtain ⟨lo3, hlo3⟩ := (hlo2.perm g2 hA).getD x3
          exact Or.inr ⟨l3, x3, lo3, st47_4b hn hA hB hE hF hc hb1 q11 q12 hl3 (fun h => (hlo3 h).1) hx3 g1, g2, hx3, hlo3⟩
    rcases S4 with ⟨l', s4, hP3, hS⟩ | ⟨l3, p, lo3, s4, hP3, hp, hlo3⟩
    · refine ⟨l', X1, iter_last ?_ (by simp), hP1.trans (hP2.trans hP3), hS⟩
      rw [hX]
      exact (hr _ _).trans (congrArg fin47 ((runL_go s1).trans ((runL_go s2).trans ((runL_go s3).trans (runL_stop s4 (by simp))))))
    · have hl3 : l3.length = n := by rw [hP3.length]; exact hl2
      have hgo : ∀ q, run47 [p13, p14, p15, p16, p17, p18, p19] (e47d b ver n F A B lim1 wb wp r2 (eqT c A lo3 p)) (hs en H1 b ver l3) = q → roundA Try.cfg 47 iter (call Try.cfg) 0 a (e47 b ver n F A B lim wb wp, hs en H b ver l) = fin47 q :=
        fun q hq => (hr _ _).trans (congrArg fin47 ((runL_go s1).trans ((runL_go s2).trans ((runL_go s3).trans ((runL_go s4).trans hq)))))
      have hP : PermOn A B l l3 := hP1.trans (hP2.trans hP3)
      cases he : eqT c A lo3 p with
      | true =>
        rw [he] at hgo
        simp only [eqT, Bool.and_eq_true, decide_eq_true_eq, Bool.not_eq_true', decide_eq_false_iff_not] at he
        obtain ⟨l4, m', g1, g2, g3, g4, g5, g6⟩ := call58 (ver := ver) hE hF hc hb1 hC hl3 hn' hr3 hr4 hB hp
        have hl4 : l4.length = n := by rw [g2.length]; exact hl3
        have hlo4 := (hlo3 he.1).2
        have hlow4 : ∀ k x, A ≤ k → k < B → l4[k]? = some x → le' c lo3 x := fun k x r1 r2 r3 => g2.all hA (Q := fun z => le' c lo3 z) (fun q z y1 y2 y3 => hlo4 q z y1 y2 y3) r1 r2 r3
        have hlast : l4[m' - 1]? = some l4[m' - 1] := List.getElem?_eq_getElem (by omega)
        generalize l4[m' - 1] = z at hlast
        obtain ⟨l', X, f1, f2, f3⟩ := ih (B - m') (by omega) b ver H1 a l4 m' B lim1 wb wp ha hb1 hl4 g4 hB (Nat.le_refl _) k1 k2 (fun _ => ⟨z, hlast, fun k x r1 r2 r3 => hC.tr _ _ _ (g5 (m' - 1) z (by omega) (by omega) hlast) (hC.asym _ _ (g6 k x r1 r2 r3))⟩)
        refine ⟨l', X1 ++ X, iter_normal ((hgo _ (st47_5a hn hA hB q13 q14 q15 q16 q17 q18 q19 g1)).trans (end47' ..)) ?_, hP.trans (g2.trans (f2.widen (by omega) (Nat.le_refl _))), ?_⟩
        · rw [← List.append_assoc, hX]
          exact f1
        · intro i j x y t1 t2 t3 t4 t5
          by_cases e1 : j < m'
          · rw [f2.out _ (by omega)] at t4 t5
            exact hC.tr _ _ _ (g5 i x t1 (by omega) t4) (hC.tr _ _ _ he.2 (hlow4 j y (by omega) t3 t5))
          · by_cases e2 : i < m'
            · rw [f2.out i (by omega)] at t4
              have : c p y < 0 := f2.all g4 (Q := fun z => c p z < 0) (fun q z y1 y2 y3 => g6 q z y1 y2 y3) (by omega) t3 t5
              exact hC.tr _ _ _ (g5 i x t1 e2 t4) (hC.asym _ _ this)
            · exact f3 i j x y (by omega) t2 t3 t4 t5
      | false =>
        rw [he] at hgo
        obtain ⟨l4, m', fl, g1, g2, g3, g4, g5, g6, g7⟩ := call59 (ver := ver) hE hF hc hb1 hC hl3 hn' hr3 hr4 hB hp
        have hl4 : l4.length = n := by rw [g2.length]; exact hl3
        have hlow4 : Low c A B l4 := Low.perm (fun h0 => ⟨lo3, hlo3 h0⟩) g2 hA
        obtain ⟨thr, hthr⟩ : ∃ thr : Nat, thr = (B - A) / 8 := ⟨_, rfl⟩
        have ht : ((B : Int) - A).tdiv 8 = thr := by
          rw [Int.tdiv_eq_ediv_of_nonneg (by omega)]; omega
        have s5 := st47_5b (ver := ver) (b := b) (F := F) (lim := lim1) (wb := wb) (wp := wp) hn hA hB q13 q14 q15 q16 q17 q18 q19 g3 g4 ht (by omega) g1
        have hgo2 : ∀ q, run47 [p19] (e47e b ver n F A B m' thr lim1 fl) (hs en H1 b ver l4) = q → roundA Try.cfg 47 iter (call Try.cfg) 0 a (e47 b ver n F A B lim wb wp, hs en H b ver l) = fin47 q := fun q hq =>
          hgo q ((runL_go (r := [p13, p14, p15, p16, p17, p18]) (r' := [p19]) s5).trans hq)
        have lowL : Low c A m' l4 := fun h0 => by
          obtain ⟨lo, y1, y2⟩ := hlow4 h0
          exact ⟨lo, y1, fun k x r1 r2 r3 => y2 k x r1 (by omega) r3⟩
        by_cases hlt : (m' : Int) - A < B - m'
        · obtain ⟨l5, X5, f1, f2, f3⟩ := call47_of (b := b) (ver := ver) hn (ih (m' - A) (by omega)) hb1 hl4 g3 (by omega) (Nat.le_refl _) k1 k2 lowL
          have hl5 : l5.length = n := by rw [f2.length]; exact hl4
          have hm5 : l5[m']? = some p := by rw [f2.out m' (by omega)]; exact g5
          have s6 := st47_6a (fl := fl) (thr := thr) hn hA hB q13 q14 q15 q16 q17 q18 q19 g3 g4 hlt f1
          have hb5 : b < (H1 ++ X5).length := by simp; omega
          obtain ⟨l', X, d1, d2, d3⟩ := ih (B - (m' + 1)) (by omega) b ver (H1 ++ X5) a l5 (m' + 1) B lim1 _ fl ha hb5 hl5 (by omega) hB (Nat.le_refl _) k1 k2 (fun _ => ⟨p, by rw [Nat.add_sub_cancel]; exact hm5, fun k x r1 r2 r3 => by
            rw [f2.out k (by omega)] at r3
            exact g7 k x (by omega) r2 r3⟩)
          refine ⟨l', X1 ++ (X5 ++ X), iter_normal ((hgo2 _ s6).trans (end47 ..)) ?_, hP.trans (g2.trans ((f2.widen (Nat.le_refl _) (by omega)).trans (d2.widen (by omega) (Nat.le_refl _)))), ?_⟩
          · rw [← List.append_assoc, hX, ← List.append_assoc]
            exact d1
          · refine glue47 hC (m := m') (p := p) (by rw [d2.out m' (by omega)]; exact hm5) (fun i j x y t1 t2 t3 t4 t5 => ?_) d3 (fun k x r1 r2 r3 => ?_) (fun k x r1 r2 r3 => ?_)
            · rw [d2.out _ (by omega)] at t4 t5
              exact f3 i j x y t1 t2 t3 t4 t5
            · rw [d2.out _ (by omega)] at r3
              exact f2.all g3 (Q := fun z => c z p < 0) (fun q z y1 y2 y3 => g6 q z y1 y2 y3) r1 r2 r3
            · refine d2.all (by omega) (Q := fun z => ¬ c z p < 0) (fun q z y1 y2 y3 => ?_) (by omega) r2 r3
              rw [f2.out q (by omega)] at y3
              exact g7 q z (by omega) y2 y3
        · obtain ⟨l5, X5, f1, f2, f3⟩ := call47_of (b := b) (ver := ver) (A := m' + 1) (B := B) hn (ih (B - (m' + 1)) (by omega)) hb1 hl4 (by omega) hB (Nat.le_refl _) k1 k2 (fun _ => ⟨p, by rw [Nat.add_sub_cancel]; exact g5, fun k x r1 r2 r3 => g7 k x (by omega) r2 r3⟩)
          have hl5 : l5.length = n := by rw [f2.length]; exact hl4
          have hm5 : l5[m']? = some p := by rw [f2.out m' (by omega)]; exact g5
          have s6 := st47_6b (fl := fl) (thr := thr) hn hA hB q13 q14 q15 q16 q17 q18 q19 g3 g4 hlt f1
          have hb5 : b < (H1 ++ X5).length := by simp; omega
          have low5 : Low c A m' l5 := fun h0 => by
            obtain ⟨lo, y1, y2⟩ := lowL h0
            exact ⟨lo, by rw [f2.out _ (by omega)]; exact y1, fun k x r1 r2 r3 => by
              rw [f2.out k (by omega)] at r3
              exact y2 k x r1 r2 r3⟩
          obtain ⟨l', X, d1, d2, d3⟩ := ih (m' - A) (by omega) b ver (H1 ++ X5) a l5 A m' lim1 _ fl ha hb5 hl5 g3 (by omega) (Nat.le_refl _) k1 k2 low5
          refine ⟨l', X1 ++ (X5 ++ X), iter_normal ((hgo2 _ s6).trans (end47 ..)) ?_, hP.trans (g2.trans ((f2.widen (by omega) (Nat.le_refl _)).trans (d2.widen (Nat.le_refl _) (by omega)))), ?_⟩
          · rw [← List.append_assoc, hX, ← List.append_assoc]
            exact d1
          · refine glue47 hC (m := m') (p := p) (by rw [d2.out m' (by omega)]; exact hm5) d3 (fun i j x y t1 t2 t3 t4 t5 => ?_) (fun k x r1 r2 r3 => ?_) (fun k x r1 r2 r3 => ?_)
            · rw [d2.out _ (by omega)] at t4 t5
              exact f3 i j x y t1 t2 t3 t4 t5
            · refine d2.all g3 (Q := fun z => c z p < 0) (fun q z y1 y2 y3 => ?_) r1 r2 r3
              rw [f2.out q (by omega)] at y3
              exact g6 q z y1 y2 y3
            · rw [d2.out _ (by omega)] at r3
              exact f2.all (by omega) (Q := fun z => ¬ c z p < 0) (fun q z y1 y2 y3 => g7 q z (by omega) y2 y3) (by omega) r2 r3
/-- slices.SortFunc. -/
theorem call34 (hC : Cmp c) (hn : n ≤ 1000) {H : Heap} {l : List α} (hb : b < H.length) (hl : l.length = n) :
    ∃ l' X, call Try.cfg 34 [.ms b ver 0 n 1, .fn F []] (hs en H b ver l) = some (.tu [], hs en (H ++ X) b ver l') ∧ l'.Perm l ∧ l'.Pairwise (le' c) := by
  obtain ⟨k, h1, h2, h3, h4⟩ := call48 (n := n) (by omega)
  obtain ⟨l', X, g1, g2, g3⟩ := call47_of (b := b) (ver := ver) (A := 0) (B := n) (lim := k) (m := n) hn (loop47 hE hF hc hC hn n) hb hl (Nat.zero_le _) (Nat.le_refl _) (by omega) (by omega) (by omega) (fun h => absurd h (Nat.lt_irrefl _))
  refine ⟨l', X, call_step ?_, g2.perm, ?_⟩
  · have ec := aconv_int Try.prog 3 71 (k' := .i64) (n := n) Try.underlying3 Try.underlying71
    rw [wrapu (by omega) (by omega)] at ec
    simp only [Int.natCast_zero] at g1
    simp -implicitDefEqProofs (maxSteps := 1000000) (disch := omega) only [stepA, bodyA, Try.f34, push_cast, ↓dstAt_zero, ↓dstAt_succ, ↓arun_skip, ↓arun_region, ↓arun_seq, ↓arun_cond, ↓arun_block, ↓arun_loop, ↓arun_exit, ↓arun_ret, aops_nil, aops_cons, aops_cons_guard, ↓putA_some, ↓putA_none, ↓aop_move, ↓aop_assign, ↓aop_pick, ↓aop_alloc, ↓aop_box, ↓aop_build, ↓aop_buildSlice, ↓aop_load, ↓aop_store, ↓aop_nilCheck, ↓aop_binOp, ↓aop_unOp, ↓aop_convert, ↓aop_makeSlice, ↓aop_fieldAddr, ↓aop_field, ↓aop_indexAddr, ↓aop_index, ↓aop_lookup, ↓aop_mapUpdate, ↓aop_insert, ↓aop_extract, ↓aop_callB, ↓aop_callF, ↓aop_callT, ↓aop_makeFunc, ↓aop_makeMap, ↓aop_slice, ↓aevs_nil, ↓aevs_cons, ↓evP_nil, ↓evP_cons, ↓aevO_none, ↓aevO_some, ↓reduceIte, reduceCtorEq, Nat.reduceEqDiff, Nat.reduceAdd, Nat.reduceLT, Nat.reduceSub, Nat.reduceMul, Nat.reduceLeDiff, if_true, if_false, if_pos, if_neg, hs_get, ec, h1, g1]
  · rw [List.pairwise_iff_getElem]
    intro i j hi hj hij
    exact g3 i j _ _ (Nat.zero_le _) hij (by rw [← hl, ← g2.length]; exact hj) (List.getElem?_eq_getElem hi) (List.getElem?_eq_getElem hj)
end
end Go.Proofs

/- group.Generate: the search's rounds. -/
set_option linter.unusedVariables false
set_option linter.unusedSimpArgs false
set_option linter.unusedSectionVars false
namespace Go.Proofs
open Go.AI
set_option maxRecDepth 20000
set_option maxHeartbeats 2000000
def s9 (G O : List (List Int)) (v i : Nat) : St := ([(1, Iss G), (10, .ms 1 v 0 O.length 1), (11, .mm 2), (12, I i)], [.cells true 0 [], .cells true v (O.map Is), .map (O.map mk6)])
def s9i (G O : List (List Int)) (v i k : Nat) : St := ([(1, Iss G), (10, .ms 1 v 0 O.length 1), (11, .mm 2), (12, I i), (61, Iss G), (62, I G.length), (63, I k)], [.cells true 0 [], .cells true v (O.map Is), .map (O.map mk6)])
section
variable {n : Nat} {G O : List (List Int)} {v i k : Nat} (hn : n ≤ 6) (hG : ∀ g ∈ G, PermN n g) (hGl : G.length ≤ 1000) (hO : O.length ≤ 720) (hOp : ∀ x ∈ O, PermN n x) (hi : i < O.length)
include hn hG hGl hO hOp hi
theorem r9a {c : Code} (h : loopOf 6 Try.f9 = some c) (hk : k < G.length) (hm : mulP (gt G k) (gt O i) ∈ O) : roundA Try.cfg 9 iter (call Try.cfg) 6 c (s9i G O v i k) = some (.normal, s9i G O v i (k + 1)) := by
  have hx := gt_some hk
  have hy := gt_some hi
  have hg := hG _ (List.mem_of_getElem? hx)
  have ha := hOp _ (List.mem_of_getElem? hy)
  have hgv := valid_len hg.1
  have h33 := call33u (A := gt G k) (C := gt O i) hgv (by rw [ha.2, hg.2]) (fun j hj => by rw [hg.2, ← ha.2]; exact valid_range ha.1 (by rw [ha.2, ← hg.2]; exact hj))
  have hlen := mulP_length (gt G k) (gt O i)
  have h32 := call32 (A := mulP (gt G k) (gt O i)) (by omega)
  have hf := findA_key (A := mulP (gt G k) (gt O i)) (by omega) (ks := O) (fun K hK => by rw [(hOp K hK).2, hlen, hg.2])
  have ho := keyOk_key (A := mulP (gt G k) (gt O i)) (by omega)
  rw [if_pos hm] at hf
  rw [hlen] at h32
  cases h
  generalize mulP (gt G k) (gt O i) = b at *
  generalize gt G k = x at *
  generalize gt O i = y at *
  simp -implicitDefEqProofs (maxSteps := 1000000) (disch := omega) only [push_cast, ↓dstAt_zero, ↓dstAt_succ, ↓arun_skip, ↓arun_region, ↓arun_seq, ↓arun_cond, ↓arun_block, ↓arun_loop, ↓arun_exit, ↓arun_ret, aops_nil, aops_cons, aops_cons_guard, ↓putA_some, ↓putA_none, ↓aop_move, ↓aop_assign, ↓aop_pick, ↓aop_alloc, ↓aop_box, ↓aop_build, ↓aop_buildSlice, ↓aop_load, ↓aop_store, ↓aop_nilCheck, ↓aop_binOp, ↓aop_unOp, ↓aop_convert, ↓aop_makeSlice, ↓aop_fieldAddr, ↓aop_field, ↓aop_indexAddr, ↓aop_index, ↓aop_lookup, ↓aop_mapUpdate, ↓aop_insert, ↓aop_extract, ↓aop_callB, ↓aop_callF, ↓aop_callT, ↓aop_makeFunc, ↓aop_makeMap, ↓aop_slice, ↓aevs_nil, ↓aevs_cons, ↓evP_nil, ↓evP_cons, ↓aevO_none, ↓aevO_some, ↓reduceIte, reduceCtorEq, Nat.reduceEqDiff, Nat.reduceAdd, Nat.reduceLT, Nat.reduceSub, Nat.reduceMul, Nat.reduceLeDiff, if_true, if_false, if_pos, if_neg, s9i, Iss, hx, hy, h33, h32, lookupA, ho, hf]
theorem r9b {c : Code} (h : loopOf 6 Try.f9 = some c) (hk : k < G.length) (hm : mulP (gt G k) (gt O i) ∉ O) : roundA Try.cfg 9 iter (call Try.cfg) 6 c (s9i G O v i k) = some (.normal, s9i G (O ++ [mulP (gt G k) (gt O i)]) (v + 1) i (k + 1)) := by
  have hx := gt_some hk
  have hy := gt_some hi
  have hg := hG _ (List.mem_of_getElem? hx)
  have ha := hOp _ (List.mem_of_getElem? hy)
  have hgv := valid_len hg.1
  have h33 := call33u (A := gt G k) (C := gt O i) hgv (by rw [ha.2, hg.2]) (fun j hj => by rw [hg.2, ← ha.2]; exact valid_range ha.1 (by rw [ha.2, ← hg.2]; exact hj))
  have hlen := mulP_length (gt G k) (gt O i)
  have h32 := call32 (A := mulP (gt G k) (gt O i)) (by omega)
  have hf := findA_key (A := mulP (gt G k) (gt O i)) (by omega) (ks := O) (fun K hK => by rw [(hOp K hK).2, hlen, hg.2])
  have hu := updA_key (A := mulP (gt G k) (gt O i)) (by omega) (ks := O) (fun K hK => by rw [(hOp K hK).2, hlen, hg.2])
  have ho := keyOk_key (A := mulP (gt G k) (gt O i)) (by omega)
  rw [if_neg hm] at hf
  rw [addK, if_neg hm] at hu
  rw [hlen] at h32
  have hbi : AV.sl false (gt G k).length ((mulP (gt G k) (gt O i)).map I) = Is (mulP (gt G k) (gt O i)) := by rw [← hlen]; rfl
  have e1 : List.take O.length (List.map Is O) = List.map Is O := List.take_of_length_le (by simp)
  have e2 : List.map Is O ++ [Is (mulP (gt G k) (gt O i))] = (O ++ [mulP (gt G k) (gt O i)]).map Is := by rw [List.map_append]; rfl
  have e3 : (O ++ [mulP (gt G k) (gt O i)]).length = O.length + 1 := by simp
  cases h
  generalize O ++ [mulP (gt G k) (gt O i)] = O' at *
  generalize mulP (gt G k) (gt O i) = b at *
  generalize gt G k = x at *
  generalize gt O i = y at *
  simp -implicitDefEqProofs (maxSteps := 1000000) (disch := omega) only [push_cast, ↓dstAt_zero, ↓dstAt_succ, ↓arun_skip, ↓arun_region, ↓arun_seq, ↓arun_cond, ↓arun_block, ↓arun_loop, ↓arun_exit, ↓arun_ret, aops_nil, aops_cons, aops_cons_guard, ↓putA_some, ↓putA_none, ↓aop_move, ↓aop_assign, ↓aop_pick, ↓aop_alloc, ↓aop_box, ↓aop_build, ↓aop_buildSlice, ↓aop_load, ↓aop_store, ↓aop_nilCheck, ↓aop_binOp, ↓aop_unOp, ↓aop_convert, ↓aop_makeSlice, ↓aop_fieldAddr, ↓aop_field, ↓aop_indexAddr, ↓aop_index, ↓aop_lookup, ↓aop_mapUpdate, ↓aop_insert, ↓aop_extract, ↓aop_callB, ↓aop_callF, ↓aop_callT, ↓aop_makeFunc, ↓aop_makeMap, ↓aop_slice, ↓aevs_nil, ↓aevs_cons, ↓evP_nil, ↓evP_cons, ↓aevO_none, ↓aevO_some, ↓reduceIte, reduceCtorEq, Nat.reduceEqDiff, Nat.reduceAdd, Nat.reduceLT, Nat.reduceSub, Nat.reduceMul, Nat.reduceLeDiff, if_true, if_false, if_pos, if_neg, s9i, Iss, hx, hy, h33, h32, lookupA, mapUpdateA, ho, hf, hu, e1, e2, e3]
  simp only [hbi, e2]
  try rfl
theorem r9c {c : Code} (h : loopOf 6 Try.f9 = some c) : roundA Try.cfg 9 iter (call Try.cfg) 6 c (s9i G O v i G.length) = some (.exit 6, s9 G O v i) := by
  cases h
  simp -implicitDefEqProofs (maxSteps := 1000000) (disch := omega) only [push_cast, ↓dstAt_zero, ↓dstAt_succ, ↓arun_skip, ↓arun_region, ↓arun_seq, ↓arun_cond, ↓arun_block, ↓arun_loop, ↓arun_exit, ↓arun_ret, aops_nil, aops_cons, aops_cons_guard, ↓putA_some, ↓putA_none, ↓aop_move, ↓aop_assign, ↓aop_pick, ↓aop_alloc, ↓aop_box, ↓aop_build, ↓aop_buildSlice, ↓aop_load, ↓aop_store, ↓aop_nilCheck, ↓aop_binOp, ↓aop_unOp, ↓aop_convert, ↓aop_makeSlice, ↓aop_fieldAddr, ↓aop_field, ↓aop_indexAddr, ↓aop_index, ↓aop_lookup, ↓aop_mapUpdate, ↓aop_insert, ↓aop_extract, ↓aop_callB, ↓aop_callF, ↓aop_callT, ↓aop_makeFunc, ↓aop_makeMap, ↓aop_slice, ↓aevs_nil, ↓aevs_cons, ↓evP_nil, ↓evP_cons, ↓aevO_none, ↓aevO_some, ↓reduceIte, reduceCtorEq, Nat.reduceEqDiff, Nat.reduceAdd, Nat.reduceLT, Nat.reduceSub, Nat.reduceMul, Nat.reduceLeDiff, if_true, if_false, if_pos, if_neg, s9i, s9, Iss, Int.lt_irrefl]
end
structure InvB (G : List (List Int)) (n : Nat) (O : List (List Int)) (i : Nat) : Prop where
  nodup : O.Nodup
  reach : ∀ x ∈ O, Reach G n x
  one : idP n ∈ O
  done : ∀ j, j < i → ∀ g ∈ G, mulP g (gt O j) ∈ O
theorem gt_app {O : List (List Int)} {b : List Int} {j : Nat} (h : j < O.length) : gt (O ++ [b]) j = gt O j := by simp [gt, List.getElem?_append_left h]
section
variable {n : Nat} {G : List (List Int)} (hn : n ≤ 6) (hG : ∀ g ∈ G, PermN n g) (hGl : G.length ≤ 1000)
include hn hG hGl
theorem invB_len {O : List (List Int)} {i : Nat} (hI : InvB G n O i) : O.length ≤ 720 := perm_count hn hI.nodup fun x hx => reach_perm hn hG (hI.reach x hx)
theorem l9i {c : Code} (h : loopOf 6 Try.f9 = some c) {i : Nat} : ∀ (d k : Nat) (O : List (List Int)) (v : Nat), k + d = G.length → i < O.length → InvB G n O i → (∀ k', k' < k → mulP (gt G k') (gt O i) ∈ O) →
    ∃ O' v', iter (roundA Try.cfg 9 iter (call Try.cfg) 6 c) (s9i G O v i k) = some (.exit 6, s9 G O' v' i) ∧ InvB G n O' (i + 1) ∧ O.length ≤ O'.length
  | 0, k, O, v, hk, hi, hI, hd => by
    have e : k = G.length := by omega
    refine ⟨O, v, ?_, ⟨hI.nodup, hI.reach, hI.one, fun j hj g hg => ?_⟩, Nat.le_refl _⟩
    · rw [e]
      exact iter_last (r9c hn hG hGl (invB_len hn hG hGl hI) (fun x hx => reach_perm hn hG (hI.reach x hx)) hi h) (by simp)
    · by_cases ej : j = i
      · rw [ej]
        obtain ⟨k', hk'⟩ := List.mem_iff_getElem?.1 hg
        have hkl := lt_of_get hk'
        rw [gt_some hkl] at hk'
        cases hk'
        exact hd k' (by omega)
      · exact hI.done j (by omega) g hg
  | d + 1, k, O, v, hk, hi, hI, hd => by
    have hO := invB_len hn hG hGl hI
    have hOp := fun x (hx : x ∈ O) => reach_perm hn hG (hI.reach x hx)
    have hgk : gt G k ∈ G := List.mem_of_getElem? (gt_some (by omega))
    have hoi : gt O i ∈ O := List.mem_of_getElem? (gt_some hi)
    by_cases hm : mulP (gt G k) (gt O i) ∈ O
    · obtain ⟨O', v', g1, g2, g3⟩ := l9i h d (k + 1) O v (by omega) hi hI (fun k' hk' => by
        by_cases e : k' = k
        · rw [e]; exact hm
        · exact hd k' (by omega))
      exact ⟨O', v', iter_normal (r9a hn hG hGl hO hOp hi h (by omega) hm) g1, g2, g3⟩
    · have hI2 : InvB G n (O ++ [mulP (gt G k) (gt O i)]) i := ⟨by
          rw [List.nodup_append]
          refine ⟨hI.nodup, by simp, fun x hx y hy e => ?_⟩
          rw [List.mem_singleton] at hy
          exact hm (by rw [← hy, ← e]; exact hx), fun x hx => by
          rcases List.mem_append.1 hx with hx | hx
          · exact hI.reach x hx
          · rw [List.mem_singleton.1 hx]
            exact .step (hI.reach _ hoi) hgk, List.mem_append.2 (Or.inl hI.one), fun j hj g hg => by
          rw [gt_app (by omega)]
          exact List.mem_append.2 (Or.inl (hI.done j hj g hg))⟩
      obtain ⟨O', v', g1, g2, g3⟩ := l9i h d (k + 1) _ (v + 1) (by omega) (by simp; omega) hI2 (fun k' hk' => by
        rw [gt_app hi]
        by_cases e : k' = k
        · rw [e]; exact List.mem_append.2 (Or.inr (by simp))
        · exact List.mem_append.2 (Or.inl (hd k' (by omega))))
      refine ⟨O', v', iter_normal (r9b hn hG hGl hO hOp hi h (by omega) hm) g1, g2, ?_⟩
      simp at g3
      omega
theorem o9a {c : Code} (h : loopOf 4 Try.f9 = some c) {O O' : List (List Int)} {v v' i : Nat} (hO : O.length ≤ 720) (hi : i < O.length) (gi : ∀ c2, loopOf 6 Try.f9 = some c2 → iter (roundA Try.cfg 9 iter (call Try.cfg) 6 c2) (s9i G O v i 0) = some (.exit 6, s9 G O' v' i)) :
    roundA Try.cfg 9 iter (call Try.cfg) 4 c (s9 G O v i) = some (.normal, s9 G O' v' (i + 1)) := by
  cases h2 : loopOf 6 Try.f9 with
  | none => cases h2
  | some c2 =>
    have g1 := gi c2 h2
    cases h
    cases h2
    simp only [s9, s9i, Iss, Is, Int.natCast_zero] at g1
    simp -implicitDefEqProofs (maxSteps := 1000000) (disch := omega) only [push_cast, ↓dstAt_zero, ↓dstAt_succ, ↓arun_skip, ↓arun_region, ↓arun_seq, ↓arun_cond, ↓arun_block, ↓arun_loop, ↓arun_exit, ↓arun_ret, aops_nil, aops_cons, aops_cons_guard, ↓putA_some, ↓putA_none, ↓aop_move, ↓aop_assign, ↓aop_pick, ↓aop_alloc, ↓aop_box, ↓aop_build, ↓aop_buildSlice, ↓aop_load, ↓aop_store, ↓aop_nilCheck, ↓aop_binOp, ↓aop_unOp, ↓aop_convert, ↓aop_makeSlice, ↓aop_fieldAddr, ↓aop_field, ↓aop_indexAddr, ↓aop_index, ↓aop_lookup, ↓aop_mapUpdate, ↓aop_insert, ↓aop_extract, ↓aop_callB, ↓aop_callF, ↓aop_callT, ↓aop_makeFunc, ↓aop_makeMap, ↓aop_slice, ↓aevs_nil, ↓aevs_cons, ↓evP_nil, ↓evP_cons, ↓aevO_none, ↓aevO_some, ↓reduceIte, reduceCtorEq, Nat.reduceEqDiff, Nat.reduceAdd, Nat.reduceLT, Nat.reduceSub, Nat.reduceMul, Nat.reduceLeDiff, if_true, if_false, if_pos, if_neg, s9, s9i, Iss, g1]
theorem o9b {c : Code} (h : loopOf 4 Try.f9 = some c) {O : List (List Int)} {v : Nat} (hO : O.length ≤ 720) : roundA Try.cfg 9 iter (call Try.cfg) 4 c (s9 G O v O.length) = some (.exit 4, [(10, .ms 1 v 0 O.length 1)], [.cells true 0 [], .cells true v (O.map Is), .map (O.map mk6)]) := by
  cases h
  simp -implicitDefEqProofs (maxSteps := 1000000) (disch := omega) only [push_cast, ↓dstAt_zero, ↓dstAt_succ, ↓arun_skip, ↓arun_region, ↓arun_seq, ↓arun_cond, ↓arun_block, ↓arun_loop, ↓arun_exit, ↓arun_ret, aops_nil, aops_cons, aops_cons_guard, ↓putA_some, ↓putA_none, ↓aop_move, ↓aop_assign, ↓aop_pick, ↓aop_alloc, ↓aop_box, ↓aop_build, ↓aop_buildSlice, ↓aop_load, ↓aop_store, ↓aop_nilCheck, ↓aop_binOp, ↓aop_unOp, ↓aop_convert, ↓aop_makeSlice, ↓aop_fieldAddr, ↓aop_field, ↓aop_indexAddr, ↓aop_index, ↓aop_lookup, ↓aop_mapUpdate, ↓aop_insert, ↓aop_extract, ↓aop_callB, ↓aop_callF, ↓aop_callT, ↓aop_makeFunc, ↓aop_makeMap, ↓aop_slice, ↓aevs_nil, ↓aevs_cons, ↓evP_nil, ↓evP_cons, ↓aevO_none, ↓aevO_some, ↓reduceIte, reduceCtorEq, Nat.reduceEqDiff, Nat.reduceAdd, Nat.reduceLT, Nat.reduceSub, Nat.reduceMul, Nat.reduceLeDiff, if_true, if_false, if_pos, if_neg, s9, Iss, Int.lt_irrefl]
theorem l9 {c : Code} (h : loopOf 4 Try.f9 = some c) : ∀ (d i : Nat) (O : List (List Int)) (v : Nat), i + d = 721 → i ≤ O.length → InvB G n O i →
    ∃ (O' : List (List Int)) (v' : Nat), iter (roundA Try.cfg 9 iter (call Try.cfg) 4 c) (s9 G O v i) = some (.exit 4, [(10, .ms 1 v' 0 O'.length 1)], [.cells true 0 [], .cells true v' (O'.map Is), .map (O'.map mk6)]) ∧ InvB G n O' O'.length
  | 0, i, O, v, hd, hi, hI => by
    have := invB_len hn hG hGl hI
    omega
  | d + 1, i, O, v, hd, hi, hI => by
    have hO := invB_len hn hG hGl hI
    by_cases e : i = O.length
    · rw [e] at hI ⊢
      exact ⟨O, v, iter_last (o9b hn hG hGl h hO) (by simp), hI⟩
    · cases h2 : loopOf 6 Try.f9 with
      | none => cases h2
      | some c2 =>
        obtain ⟨O1, v1, g1, g2, g3⟩ := l9i hn hG hGl h2 G.length 0 O v (by omega) (by omega) hI (fun k' hk' => by omega)
        obtain ⟨O', v', g4, g5⟩ := l9 h d (i + 1) O1 v1 (by omega) (by omega) g2
        refine ⟨O', v', iter_normal (o9a hn hG hGl h hO (by omega) (fun c3 h3 => ?_)) g4, g5⟩
        rw [h2] at h3
        cases h3
        exact g1
theorem invB_all {O : List (List Int)} (hI : InvB G n O O.length) (x : List Int) : x ∈ O ↔ Reach G n x := by
  constructor
  · exact hI.reach x
  · intro h
    induction h with
    | one => exact hI.one
    | step _ hg ih =>
      obtain ⟨j, hj⟩ := List.mem_iff_getElem?.1 ih
      have hjl := lt_of_get hj
      rw [gt_some hjl] at hj
      cases hj
      exact hI.done j hjl _ hg
end
end Go.Proofs

/- Generate, both. -/
set_option linter.unusedVariables false
set_option linter.unusedSimpArgs false
set_option linter.unusedSectionVars false
namespace Go.Proofs
open Go.AI
set_option maxRecDepth 20000
set_option maxHeartbeats 4000000
abbrev L6 := { A : List Int // A.length ≤ 6 }
def en6 (x : L6) : AV := Is x.1
theorem el6 : El en6 := ⟨fun _ => rfl, fun _ => rfl, fun _ => rfl⟩
theorem cmp6 : Cmp (fun x y : L6 => lexC x.1 y.1) := ⟨fun x y => lex_cmp.asym _ _, fun x y z => lex_cmp.tr _ _ _⟩
def at6 : (O : List (List Int)) → (∀ x ∈ O, x.length ≤ 6) → List L6
  | [], _ => []
  | x :: r, h => ⟨x, h x (by simp)⟩ :: at6 r (fun y hy => h y (by simp [hy]))
theorem at6_val : ∀ (O : List (List Int)) (h : ∀ x ∈ O, x.length ≤ 6), (at6 O h).map Subtype.val = O
  | [], _ => rfl
  | x :: r, h => by simp [at6, at6_val r]
theorem en6_map (l : List L6) : l.map en6 = (l.map Subtype.val).map Is := by rw [List.map_map]; rfl
/-- The sort of lists. -/
theorem sort6 {O : List (List Int)} {v : Nat} {H : Heap} {b : Nat} (hO : O.length ≤ 1000) (hp : ∀ x ∈ O, x.length ≤ 6) (hb : b < H.length) :
    ∃ (O' : List (List Int)) (X : Heap), call Try.cfg 34 [.ms b v 0 O.length 1, .fn 35 []] (H.set b (.cells true v (O.map Is))) = some (.tu [], (H ++ X).set b (.cells true v (O'.map Is))) ∧ O'.Perm O ∧ O'.Pairwise (le' lexC) := by
  obtain ⟨l', X, g1, g2, g3⟩ := call34 (b := b) (ver := v) (en := en6) (c := fun x y : L6 => lexC x.1 y.1) (F := 35) el6 Try.sh35 (fun x y => call35u (A := x.1) (C := y.1) (by have := x.2; omega) (by have := y.2; omega)) cmp6 hO hb (l := at6 O hp) (by rw [← List.length_map (f := Subtype.val), at6_val])
  refine ⟨l'.map Subtype.val, X, ?_, ?_, ?_⟩
  · unfold hs at g1
    rw [en6_map, en6_map, at6_val] at g1
    exact g1
  · have := g2.map Subtype.val
    rw [at6_val] at this
    exact this
  · rw [List.pairwise_map]
    exact g3
section
variable {n : Int} {G : List (List Int)} (hn0 : 0 ≤ n) (hn : n ≤ 6) (hGl : G.length ≤ 16) (hs : ∀ x ∈ G, x.length ≤ 1000)
include hn0 hn hGl hs
def s9v (n : Int) (G : List (List Int)) (i : Nat) : St := ([(0, I n), (1, Iss G), (25, Iss G), (26, I G.length), (27, I i)], [.cells true 0 []])
def s9w (n : Int) (G : List (List Int)) (i : Nat) : St := ([(0, I n), (1, Iss G), (35, Iss G), (36, I G.length), (37, I i)], [.cells true 0 []])
theorem r9v {c : Code} (h : loopOf 0 Try.f9 = some c) {i : Nat} (hi : i < G.length) : roundA Try.cfg 9 iter (call Try.cfg) 0 c (s9v n G i) = some (if validL (gt G i) = true then (.normal, s9v n G (i + 1)) else (.ret, [(4, .ms 1 0 0 0 0), (5, I 1)], [.cells true 0 [], .cells true 0 []])) := by
  have hx := gt_some hi
  have v1 := call23u (hs _ (List.mem_of_getElem? hx))
  cases h
  generalize gt G i = x at *
  cases hv : validL x with
  | true =>
    rw [hv] at v1
    rw [if_pos rfl]
    simp -implicitDefEqProofs (maxSteps := 1000000) (disch := omega) only [push_cast, ↓dstAt_zero, ↓dstAt_succ, ↓arun_skip, ↓arun_region, ↓arun_seq, ↓arun_cond, ↓arun_block, ↓arun_loop, ↓arun_exit, ↓arun_ret, aops_nil, aops_cons, aops_cons_guard, ↓putA_some, ↓putA_none, ↓aop_move, ↓aop_assign, ↓aop_pick, ↓aop_alloc, ↓aop_box, ↓aop_build, ↓aop_buildSlice, ↓aop_load, ↓aop_store, ↓aop_nilCheck, ↓aop_binOp, ↓aop_unOp, ↓aop_convert, ↓aop_makeSlice, ↓aop_fieldAddr, ↓aop_field, ↓aop_indexAddr, ↓aop_index, ↓aop_lookup, ↓aop_mapUpdate, ↓aop_insert, ↓aop_extract, ↓aop_callB, ↓aop_callF, ↓aop_callT, ↓aop_makeFunc, ↓aop_makeMap, ↓aop_slice, ↓aevs_nil, ↓aevs_cons, ↓evP_nil, ↓evP_cons, ↓aevO_none, ↓aevO_some, ↓reduceIte, reduceCtorEq, Nat.reduceEqDiff, Nat.reduceAdd, Nat.reduceLT, Nat.reduceSub, Nat.reduceMul, Nat.reduceLeDiff, if_true, if_false, if_pos, if_neg, s9v, Iss, hx, v1]
  | false =>
    rw [hv] at v1
    rw [if_neg (by simp)]
    simp -implicitDefEqProofs (maxSteps := 1000000) (disch := omega) only [push_cast, ↓dstAt_zero, ↓dstAt_succ, ↓arun_skip, ↓arun_region, ↓arun_seq, ↓arun_cond, ↓arun_block, ↓arun_loop, ↓arun_exit, ↓arun_ret, aops_nil, aops_cons, aops_cons_guard, ↓putA_some, ↓putA_none, ↓aop_move, ↓aop_assign, ↓aop_pick, ↓aop_alloc, ↓aop_box, ↓aop_build, ↓aop_buildSlice, ↓aop_load, ↓aop_store, ↓aop_nilCheck, ↓aop_binOp, ↓aop_unOp, ↓aop_convert, ↓aop_makeSlice, ↓aop_fieldAddr, ↓aop_field, ↓aop_indexAddr, ↓aop_index, ↓aop_lookup, ↓aop_mapUpdate, ↓aop_insert, ↓aop_extract, ↓aop_callB, ↓aop_callF, ↓aop_callT, ↓aop_makeFunc, ↓aop_makeMap, ↓aop_slice, ↓aevs_nil, ↓aevs_cons, ↓evP_nil, ↓evP_cons, ↓aevO_none, ↓aevO_some, ↓reduceIte, reduceCtorEq, Nat.reduceEqDiff, Nat.reduceAdd, Nat.reduceLT, Nat.reduceSub, Nat.reduceMul, Nat.reduceLeDiff, if_true, if_false, if_pos, if_neg, s9v, Iss, hx, v1]
    try rfl
theorem r9ve {c : Code} (h : loopOf 0 Try.f9 = some c) : roundA Try.cfg 9 iter (call Try.cfg) 0 c (s9v n G G.length) = some (.exit 0, [(0, I n), (1, Iss G)], [.cells true 0 []]) := by
  cases h
  simp -implicitDefEqProofs (maxSteps := 1000000) (disch := omega) only [push_cast, ↓dstAt_zero, ↓dstAt_succ, ↓arun_skip, ↓arun_region, ↓arun_seq, ↓arun_cond, ↓arun_block, ↓arun_loop, ↓arun_exit, ↓arun_ret, aops_nil, aops_cons, aops_cons_guard, ↓putA_some, ↓putA_none, ↓aop_move, ↓aop_assign, ↓aop_pick, ↓aop_alloc, ↓aop_box, ↓aop_build, ↓aop_buildSlice, ↓aop_load, ↓aop_store, ↓aop_nilCheck, ↓aop_binOp, ↓aop_unOp, ↓aop_convert, ↓aop_makeSlice, ↓aop_fieldAddr, ↓aop_field, ↓aop_indexAddr, ↓aop_index, ↓aop_lookup, ↓aop_mapUpdate, ↓aop_insert, ↓aop_extract, ↓aop_callB, ↓aop_callF, ↓aop_callT, ↓aop_makeFunc, ↓aop_makeMap, ↓aop_slice, ↓aevs_nil, ↓aevs_cons, ↓evP_nil, ↓evP_cons, ↓aevO_none, ↓aevO_some, ↓reduceIte, reduceCtorEq, Nat.reduceEqDiff, Nat.reduceAdd, Nat.reduceLT, Nat.reduceSub, Nat.reduceMul, Nat.reduceLeDiff, if_true, if_false, if_pos, if_neg, s9v, Iss, Int.lt_irrefl]
theorem r9w {c : Code} (h : loopOf 2 Try.f9 = some c) {i : Nat} (hi : i < G.length) : roundA Try.cfg 9 iter (call Try.cfg) 2 c (s9w n G i) = some (if decide (((gt G i).length : Int) = n) = true then (.normal, s9w n G (i + 1)) else (.ret, [(4, .ms 1 0 0 0 0), (5, I 4)], [.cells true 0 [], .cells true 0 []])) := by
  have hx := gt_some hi
  have hl := hs _ (List.mem_of_getElem? hx)
  cases h
  generalize gt G i = x at *
  by_cases hv : (x.length : Int) = n
  · rw [if_pos (decide_eq_true hv)]
    simp -implicitDefEqProofs (maxSteps := 1000000) (disch := omega) only [push_cast, ↓dstAt_zero, ↓dstAt_succ, ↓arun_skip, ↓arun_region, ↓arun_seq, ↓arun_cond, ↓arun_block, ↓arun_loop, ↓arun_exit, ↓arun_ret, aops_nil, aops_cons, aops_cons_guard, ↓putA_some, ↓putA_none, ↓aop_move, ↓aop_assign, ↓aop_pick, ↓aop_alloc, ↓aop_box, ↓aop_build, ↓aop_buildSlice, ↓aop_load, ↓aop_store, ↓aop_nilCheck, ↓aop_binOp, ↓aop_unOp, ↓aop_convert, ↓aop_makeSlice, ↓aop_fieldAddr, ↓aop_field, ↓aop_indexAddr, ↓aop_index, ↓aop_lookup, ↓aop_mapUpdate, ↓aop_insert, ↓aop_extract, ↓aop_callB, ↓aop_callF, ↓aop_callT, ↓aop_makeFunc, ↓aop_makeMap, ↓aop_slice, ↓aevs_nil, ↓aevs_cons, ↓evP_nil, ↓evP_cons, ↓aevO_none, ↓aevO_some, ↓reduceIte, reduceCtorEq, Nat.reduceEqDiff, Nat.reduceAdd, Nat.reduceLT, Nat.reduceSub, Nat.reduceMul, Nat.reduceLeDiff, if_true, if_false, if_pos, if_neg, s9w, Iss, hx]
  · rw [if_neg (by simpa using hv)]
    simp -implicitDefEqProofs (maxSteps := 1000000) (disch := omega) only [push_cast, ↓dstAt_zero, ↓dstAt_succ, ↓arun_skip, ↓arun_region, ↓arun_seq, ↓arun_cond, ↓arun_block, ↓arun_loop, ↓arun_exit, ↓arun_ret, aops_nil, aops_cons, aops_cons_guard, ↓putA_some, ↓putA_none, ↓aop_move, ↓aop_assign, ↓aop_pick, ↓aop_alloc, ↓aop_box, ↓aop_build, ↓aop_buildSlice, ↓aop_load, ↓aop_store, ↓aop_nilCheck, ↓aop_binOp, ↓aop_unOp, ↓aop_convert, ↓aop_makeSlice, ↓aop_fieldAddr, ↓aop_field, ↓aop_indexAddr, ↓aop_index, ↓aop_lookup, ↓aop_mapUpdate, ↓aop_insert, ↓aop_extract, ↓aop_callB, ↓aop_callF, ↓aop_callT, ↓aop_makeFunc, ↓aop_makeMap, ↓aop_slice, ↓aevs_nil, ↓aevs_cons, ↓evP_nil, ↓evP_cons, ↓aevO_none, ↓aevO_some, ↓reduceIte, reduceCtorEq, Nat.reduceEqDiff, Nat.reduceAdd, Nat.reduceLT, Nat.reduceSub, Nat.reduceMul, Nat.reduceLeDiff, if_true, if_false, if_pos, if_neg, s9w, Iss, hx]
    try rfl
theorem r9we {c : Code} (h : loopOf 2 Try.f9 = some c) : roundA Try.cfg 9 iter (call Try.cfg) 2 c (s9w n G G.length) = some (.exit 2, [(0, I n), (1, Iss G)], [.cells true 0 []]) := by
  cases h
  simp -implicitDefEqProofs (maxSteps := 1000000) (disch := omega) only [push_cast, ↓dstAt_zero, ↓dstAt_succ, ↓arun_skip, ↓arun_region, ↓arun_seq, ↓arun_cond, ↓arun_block, ↓arun_loop, ↓arun_exit, ↓arun_ret, aops_nil, aops_cons, aops_cons_guard, ↓putA_some, ↓putA_none, ↓aop_move, ↓aop_assign, ↓aop_pick, ↓aop_alloc, ↓aop_box, ↓aop_build, ↓aop_buildSlice, ↓aop_load, ↓aop_store, ↓aop_nilCheck, ↓aop_binOp, ↓aop_unOp, ↓aop_convert, ↓aop_makeSlice, ↓aop_fieldAddr, ↓aop_field, ↓aop_indexAddr, ↓aop_index, ↓aop_lookup, ↓aop_mapUpdate, ↓aop_insert, ↓aop_extract, ↓aop_callB, ↓aop_callF, ↓aop_callT, ↓aop_makeFunc, ↓aop_makeMap, ↓aop_slice, ↓aevs_nil, ↓aevs_cons, ↓evP_nil, ↓evP_cons, ↓aevO_none, ↓aevO_some, ↓reduceIte, reduceCtorEq, Nat.reduceEqDiff, Nat.reduceAdd, Nat.reduceLT, Nat.reduceSub, Nat.reduceMul, Nat.reduceLeDiff, if_true, if_false, if_pos, if_neg, s9w, Iss, Int.lt_irrefl]
def s10v (n : Int) (G : List (List Int)) (i : Nat) : St := ([(0, I n), (1, Iss G), (6, I i)], [.cells true 0 []])
def s10w (n : Int) (G : List (List Int)) (i : Nat) : St := ([(0, I n), (1, Iss G), (7, I i)], [.cells true 0 []])
theorem r10v {c : Code} (h : loopOf 0 Try.f10 = some c) {i : Nat} (hi : i < G.length) : roundA Try.cfg 10 iter (call Try.cfg) 0 c (s10v n G i) = some (if validL (gt G i) = true then (.normal, s10v n G (i + 1)) else (.ret, [(4, .ms 1 0 0 0 0), (5, I 1)], [.cells true 0 [], .cells true 0 []])) := by
  have hx := gt_some hi
  have v1 := call24u (hs _ (List.mem_of_getElem? hx))
  cases h
  generalize gt G i = x at *
  cases hv : validL x with
  | true =>
    rw [hv] at v1
    rw [if_pos rfl]
    simp -implicitDefEqProofs (maxSteps := 1000000) (disch := omega) only [push_cast, ↓dstAt_zero, ↓dstAt_succ, ↓arun_skip, ↓arun_region, ↓arun_seq, ↓arun_cond, ↓arun_block, ↓arun_loop, ↓arun_exit, ↓arun_ret, aops_nil, aops_cons, aops_cons_guard, ↓putA_some, ↓putA_none, ↓aop_move, ↓aop_assign, ↓aop_pick, ↓aop_alloc, ↓aop_box, ↓aop_build, ↓aop_buildSlice, ↓aop_load, ↓aop_store, ↓aop_nilCheck, ↓aop_binOp, ↓aop_unOp, ↓aop_convert, ↓aop_makeSlice, ↓aop_fieldAddr, ↓aop_field, ↓aop_indexAddr, ↓aop_index, ↓aop_lookup, ↓aop_mapUpdate, ↓aop_insert, ↓aop_extract, ↓aop_callB, ↓aop_callF, ↓aop_callT, ↓aop_makeFunc, ↓aop_makeMap, ↓aop_slice, ↓aevs_nil, ↓aevs_cons, ↓evP_nil, ↓evP_cons, ↓aevO_none, ↓aevO_some, ↓reduceIte, reduceCtorEq, Nat.reduceEqDiff, Nat.reduceAdd, Nat.reduceLT, Nat.reduceSub, Nat.reduceMul, Nat.reduceLeDiff, if_true, if_false, if_pos, if_neg, s10v, Iss, hx, v1]
  | false =>
    rw [hv] at v1
    rw [if_neg (by simp)]
    simp -implicitDefEqProofs (maxSteps := 1000000) (disch := omega) only [push_cast, ↓dstAt_zero, ↓dstAt_succ, ↓arun_skip, ↓arun_region, ↓arun_seq, ↓arun_cond, ↓arun_block, ↓arun_loop, ↓arun_exit, ↓arun_ret, aops_nil, aops_cons, aops_cons_guard, ↓putA_some, ↓putA_none, ↓aop_move, ↓aop_assign, ↓aop_pick, ↓aop_alloc, ↓aop_box, ↓aop_build, ↓aop_buildSlice, ↓aop_load, ↓aop_store, ↓aop_nilCheck, ↓aop_binOp, ↓aop_unOp, ↓aop_convert, ↓aop_makeSlice, ↓aop_fieldAddr, ↓aop_field, ↓aop_indexAddr, ↓aop_index, ↓aop_lookup, ↓aop_mapUpdate, ↓aop_insert, ↓aop_extract, ↓aop_callB, ↓aop_callF, ↓aop_callT, ↓aop_makeFunc, ↓aop_makeMap, ↓aop_slice, ↓aevs_nil, ↓aevs_cons, ↓evP_nil, ↓evP_cons, ↓aevO_none, ↓aevO_some, ↓reduceIte, reduceCtorEq, Nat.reduceEqDiff, Nat.reduceAdd, Nat.reduceLT, Nat.reduceSub, Nat.reduceMul, Nat.reduceLeDiff, if_true, if_false, if_pos, if_neg, s10v, Iss, hx, v1]
    try rfl
theorem r10ve {c : Code} (h : loopOf 0 Try.f10 = some c) : roundA Try.cfg 10 iter (call Try.cfg) 0 c (s10v n G G.length) = some (.exit 0, [(0, I n), (1, Iss G)], [.cells true 0 []]) := by
  cases h
  simp -implicitDefEqProofs (maxSteps := 1000000) (disch := omega) only [push_cast, ↓dstAt_zero, ↓dstAt_succ, ↓arun_skip, ↓arun_region, ↓arun_seq, ↓arun_cond, ↓arun_block, ↓arun_loop, ↓arun_exit, ↓arun_ret, aops_nil, aops_cons, aops_cons_guard, ↓putA_some, ↓putA_none, ↓aop_move, ↓aop_assign, ↓aop_pick, ↓aop_alloc, ↓aop_box, ↓aop_build, ↓aop_buildSlice, ↓aop_load, ↓aop_store, ↓aop_nilCheck, ↓aop_binOp, ↓aop_unOp, ↓aop_convert, ↓aop_makeSlice, ↓aop_fieldAddr, ↓aop_field, ↓aop_indexAddr, ↓aop_index, ↓aop_lookup, ↓aop_mapUpdate, ↓aop_insert, ↓aop_extract, ↓aop_callB, ↓aop_callF, ↓aop_callT, ↓aop_makeFunc, ↓aop_makeMap, ↓aop_slice, ↓aevs_nil, ↓aevs_cons, ↓evP_nil, ↓evP_cons, ↓aevO_none, ↓aevO_some, ↓reduceIte, reduceCtorEq, Nat.reduceEqDiff, Nat.reduceAdd, Nat.reduceLT, Nat.reduceSub, Nat.reduceMul, Nat.reduceLeDiff, if_true, if_false, if_pos, if_neg, s10v, Iss, Int.lt_irrefl]
theorem r10w {c : Code} (h : loopOf 2 Try.f10 = some c) {i : Nat} (hi : i < G.length) : roundA Try.cfg 10 iter (call Try.cfg) 2 c (s10w n G i) = some (if decide (((gt G i).length : Int) = n) = true then (.normal, s10w n G (i + 1)) else (.ret, [(4, .ms 1 0 0 0 0), (5, I 4)], [.cells true 0 [], .cells true 0 []])) := by
  have hx := gt_some hi
  have hl := hs _ (List.mem_of_getElem? hx)
  cases h
  generalize gt G i = x at *
  by_cases hv : (x.length : Int) = n
  · rw [if_pos (decide_eq_true hv)]
    simp -implicitDefEqProofs (maxSteps := 1000000) (disch := omega) only [push_cast, ↓dstAt_zero, ↓dstAt_succ, ↓arun_skip, ↓arun_region, ↓arun_seq, ↓arun_cond, ↓arun_block, ↓arun_loop, ↓arun_exit, ↓arun_ret, aops_nil, aops_cons, aops_cons_guard, ↓putA_some, ↓putA_none, ↓aop_move, ↓aop_assign, ↓aop_pick, ↓aop_alloc, ↓aop_box, ↓aop_build, ↓aop_buildSlice, ↓aop_load, ↓aop_store, ↓aop_nilCheck, ↓aop_binOp, ↓aop_unOp, ↓aop_convert, ↓aop_makeSlice, ↓aop_fieldAddr, ↓aop_field, ↓aop_indexAddr, ↓aop_index, ↓aop_lookup, ↓aop_mapUpdate, ↓aop_insert, ↓aop_extract, ↓aop_callB, ↓aop_callF, ↓aop_callT, ↓aop_makeFunc, ↓aop_makeMap, ↓aop_slice, ↓aevs_nil, ↓aevs_cons, ↓evP_nil, ↓evP_cons, ↓aevO_none, ↓aevO_some, ↓reduceIte, reduceCtorEq, Nat.reduceEqDiff, Nat.reduceAdd, Nat.reduceLT, Nat.reduceSub, Nat.reduceMul, Nat.reduceLeDiff, if_true, if_false, if_pos, if_neg, s10w, Iss, hx]
  · rw [if_neg (by simpa using hv)]
    simp -implicitDefEqProofs (maxSteps := 1000000) (disch := omega) only [push_cast, ↓dstAt_zero, ↓dstAt_succ, ↓arun_skip, ↓arun_region, ↓arun_seq, ↓arun_cond, ↓arun_block, ↓arun_loop, ↓arun_exit, ↓arun_ret, aops_nil, aops_cons, aops_cons_guard, ↓putA_some, ↓putA_none, ↓aop_move, ↓aop_assign, ↓aop_pick, ↓aop_alloc, ↓aop_box, ↓aop_build, ↓aop_buildSlice, ↓aop_load, ↓aop_store, ↓aop_nilCheck, ↓aop_binOp, ↓aop_unOp, ↓aop_convert, ↓aop_makeSlice, ↓aop_fieldAddr, ↓aop_field, ↓aop_indexAddr, ↓aop_index, ↓aop_lookup, ↓aop_mapUpdate, ↓aop_insert, ↓aop_extract, ↓aop_callB, ↓aop_callF, ↓aop_callT, ↓aop_makeFunc, ↓aop_makeMap, ↓aop_slice, ↓aevs_nil, ↓aevs_cons, ↓evP_nil, ↓evP_cons, ↓aevO_none, ↓aevO_some, ↓reduceIte, reduceCtorEq, Nat.reduceEqDiff, Nat.reduceAdd, Nat.reduceLT, Nat.reduceSub, Nat.reduceMul, Nat.reduceLeDiff, if_true, if_false, if_pos, if_neg, s10w, Iss, hx]
    try rfl
theorem r10we {c : Code} (h : loopOf 2 Try.f10 = some c) : roundA Try.cfg 10 iter (call Try.cfg) 2 c (s10w n G G.length) = some (.exit 2, [(0, I n), (1, Iss G)], [.cells true 0 []]) := by
  cases h
  simp -implicitDefEqProofs (maxSteps := 1000000) (disch := omega) only [push_cast, ↓dstAt_zero, ↓dstAt_succ, ↓arun_skip, ↓arun_region, ↓arun_seq, ↓arun_cond, ↓arun_block, ↓arun_loop, ↓arun_exit, ↓arun_ret, aops_nil, aops_cons, aops_cons_guard, ↓putA_some, ↓putA_none, ↓aop_move, ↓aop_assign, ↓aop_pick, ↓aop_alloc, ↓aop_box, ↓aop_build, ↓aop_buildSlice, ↓aop_load, ↓aop_store, ↓aop_nilCheck, ↓aop_binOp, ↓aop_unOp, ↓aop_convert, ↓aop_makeSlice, ↓aop_fieldAddr, ↓aop_field, ↓aop_indexAddr, ↓aop_index, ↓aop_lookup, ↓aop_mapUpdate, ↓aop_insert, ↓aop_extract, ↓aop_callB, ↓aop_callF, ↓aop_callT, ↓aop_makeFunc, ↓aop_makeMap, ↓aop_slice, ↓aevs_nil, ↓aevs_cons, ↓evP_nil, ↓evP_cons, ↓aevO_none, ↓aevO_some, ↓reduceIte, reduceCtorEq, Nat.reduceEqDiff, Nat.reduceAdd, Nat.reduceLT, Nat.reduceSub, Nat.reduceMul, Nat.reduceLeDiff, if_true, if_false, if_pos, if_neg, s10w, Iss, Int.lt_irrefl]
end
end Go.Proofs

/- Cycles: the inner loop. -/
set_option linter.unusedVariables false
set_option linter.unusedSimpArgs false
set_option linter.unusedSectionVars false
namespace Go.Proofs
open Go.AI
set_option maxRecDepth 20000
/-- A slice that has grown from nothing: its reference. -/
def growR (b m : Nat) : AV := .ms b m 0 m (if m = 0 then 0 else 1)
theorem growR_zero (b : Nat) : growR b 0 = .ms b 0 0 0 0 := rfl
theorem growR_succ (b m : Nat) : growR b (m + 1) = .ms b (m + 1) 0 (m + 1) 1 := rfl
def in26 (A : List Int) (i : Nat) (out : List (List Int)) (bs : List Bool) (c : List Int) (k : Int) : St :=
  ([(0, Is A), (4, growR 1 out.length), (5, .ms 2 0 0 A.length 1), (7, growR 3 c.length), (8, I k), (16, I A.length), (17, I i)],
   [.cells true 0 [], .cells true out.length (out.map Is), .cells true 0 (Bs bs), .cells true c.length (c.map I)])
section
variable {a : Code} (h : loopOf 2 Try.f26 = some a) {A : List Int} (hv : validL A = true) {i : Nat} {out : List (List Int)} {bs : List Bool} (hb : bs.length = A.length) {c : List Int} (hc : c.length ≤ 6) {k : Int} (hk : 0 ≤ k) (hk' : k < A.length)
include h hv hb hc hk hk'
theorem i26b (hs : bs[k.toNat]? = some true) : roundA Try.cfg 26 iter (call Try.cfg) 2 a (in26 A i out bs c k) = some (.exit 2, [(0, Is A), (4, growR 1 out.length), (5, .ms 2 0 0 A.length 1), (7, growR 3 c.length), (16, I A.length), (17, I i)],
   [.cells true 0 [], .cells true out.length (out.map Is), .cells true 0 (Bs bs), .cells true c.length (c.map I)]) := by
  cases h
  have h6 := valid_len hv
  simp -implicitDefEqProofs (maxSteps := 1000000) (disch := omega) only [push_cast, ↓dstAt_zero, ↓dstAt_succ, ↓arun_skip, ↓arun_region, ↓arun_seq, ↓arun_cond, ↓arun_block, ↓arun_loop, ↓arun_exit, ↓arun_ret, aops_nil, aops_cons, aops_cons_guard, ↓putA_some, ↓putA_none, ↓aop_move, ↓aop_assign, ↓aop_pick, ↓aop_alloc, ↓aop_box, ↓aop_build, ↓aop_buildSlice, ↓aop_load, ↓aop_store, ↓aop_nilCheck, ↓aop_binOp, ↓aop_unOp, ↓aop_convert, ↓aop_makeSlice, ↓aop_fieldAddr, ↓aop_field, ↓aop_indexAddr, ↓aop_index, ↓aop_lookup, ↓aop_mapUpdate, ↓aop_insert, ↓aop_extract, ↓aop_callB, ↓aop_callF, ↓aop_callT, ↓aop_makeFunc, ↓aop_makeMap, ↓aop_slice, ↓aevs_nil, ↓aevs_cons, ↓evP_nil, ↓evP_cons, ↓aevO_none, ↓aevO_some, ↓reduceIte, reduceCtorEq, Nat.reduceEqDiff, Nat.reduceAdd, Nat.reduceLT, Nat.reduceSub, Nat.reduceMul, Nat.reduceLeDiff, if_true, if_false, if_pos, if_neg, in26, hs]
theorem i26a (hs : bs[k.toNat]? = some false) : roundA Try.cfg 26 iter (call Try.cfg) 2 a (in26 A i out bs c k) = some (.normal, in26 A i out (bs.set k.toNat true) (c ++ [k]) (A.getD k.toNat 0)) := by
  cases h
  have h6 := valid_len hv
  have hx : A[k.toNat]? = some (A.getD k.toNat 0) := by
    have : k.toNat < A.length := by omega
    simp [this]
  generalize A.getD k.toNat 0 = x at *
  cases c with
  | nil =>
    simp -implicitDefEqProofs (maxSteps := 1000000) (disch := omega) only [push_cast, ↓dstAt_zero, ↓dstAt_succ, ↓arun_skip, ↓arun_region, ↓arun_seq, ↓arun_cond, ↓arun_block, ↓arun_loop, ↓arun_exit, ↓arun_ret, aops_nil, aops_cons, aops_cons_guard, ↓putA_some, ↓putA_none, ↓aop_move, ↓aop_assign, ↓aop_pick, ↓aop_alloc, ↓aop_box, ↓aop_build, ↓aop_buildSlice, ↓aop_load, ↓aop_store, ↓aop_nilCheck, ↓aop_binOp, ↓aop_unOp, ↓aop_convert, ↓aop_makeSlice, ↓aop_fieldAddr, ↓aop_field, ↓aop_indexAddr, ↓aop_index, ↓aop_lookup, ↓aop_mapUpdate, ↓aop_insert, ↓aop_extract, ↓aop_callB, ↓aop_callF, ↓aop_callT, ↓aop_makeFunc, ↓aop_makeMap, ↓aop_slice, ↓aevs_nil, ↓aevs_cons, ↓evP_nil, ↓evP_cons, ↓aevO_none, ↓aevO_some, ↓reduceIte, reduceCtorEq, Nat.reduceEqDiff, Nat.reduceAdd, Nat.reduceLT, Nat.reduceSub, Nat.reduceMul, Nat.reduceLeDiff, if_true, if_false, if_pos, if_neg, in26, hs, hx, growR_zero]
    try rfl
  | cons y c =>
    have hc' : c.length ≤ 5 := by simpa using hc
    simp -implicitDefEqProofs (maxSteps := 1000000) (disch := omega) only [push_cast, ↓dstAt_zero, ↓dstAt_succ, ↓arun_skip, ↓arun_region, ↓arun_seq, ↓arun_cond, ↓arun_block, ↓arun_loop, ↓arun_exit, ↓arun_ret, aops_nil, aops_cons, aops_cons_guard, ↓putA_some, ↓putA_none, ↓aop_move, ↓aop_assign, ↓aop_pick, ↓aop_alloc, ↓aop_box, ↓aop_build, ↓aop_buildSlice, ↓aop_load, ↓aop_store, ↓aop_nilCheck, ↓aop_binOp, ↓aop_unOp, ↓aop_convert, ↓aop_makeSlice, ↓aop_fieldAddr, ↓aop_field, ↓aop_indexAddr, ↓aop_index, ↓aop_lookup, ↓aop_mapUpdate, ↓aop_insert, ↓aop_extract, ↓aop_callB, ↓aop_callF, ↓aop_callT, ↓aop_makeFunc, ↓aop_makeMap, ↓aop_slice, ↓aevs_nil, ↓aevs_cons, ↓evP_nil, ↓evP_cons, ↓aevO_none, ↓aevO_some, ↓reduceIte, reduceCtorEq, Nat.reduceEqDiff, Nat.reduceAdd, Nat.reduceLT, Nat.reduceSub, Nat.reduceMul, Nat.reduceLeDiff, if_true, if_false, if_pos, if_neg, in26, hs, hx, growR_succ, Nat.min_self, List.take_length]
end
end Go.Proofs

/- Cycles: the inner loop as a whole. -/
set_option linter.unusedVariables false
set_option linter.unusedSimpArgs false
set_option linter.unusedSectionVars false
namespace Go.Proofs
open Go.AI
set_option maxRecDepth 20000
def cyc (A : List Int) : Nat → List Bool → List Int → Int → List Bool × List Int
  | 0, bs, c, _ => (bs, c)
  | f + 1, bs, c, k => if bs.getD k.toNat false then (bs, c) else cyc A f (bs.set k.toNat true) (c ++ [k]) (A.getD k.toNat 0)
theorem count_set {bs : List Bool} {j : Nat} (h : bs[j]? = some false) : (bs.set j true).count false + 1 = bs.count false := by
  induction bs generalizing j with
  | nil => simp at h
  | cons b r ih =>
    cases j with
    | zero => simp at h; subst h; simp
    | succ j =>
      simp only [List.set_cons_succ]
      have := ih (j := j) (by simpa using h)
      simp only [List.count_cons]
      omega
def out26 (A : List Int) (i : Nat) (out : List (List Int)) (q : List Bool × List Int) : St :=
  ([(0, Is A), (4, growR 1 out.length), (5, .ms 2 0 0 A.length 1), (7, growR 3 q.2.length), (16, I A.length), (17, I i)],
   [.cells true 0 [], .cells true out.length (out.map Is), .cells true 0 (Bs q.1), .cells true q.2.length (q.2.map I)])
theorem inner26 {a : Code} (h : loopOf 2 Try.f26 = some a) {A : List Int} (hv : validL A = true) {i : Nat} {out : List (List Int)} : ∀ (f : Nat) (bs : List Bool) (c : List Int) (k : Int), bs.length = A.length → c.length + bs.count false ≤ 6 → bs.count false ≤ f → 0 ≤ k → k < A.length →
    iter (roundA Try.cfg 26 iter (call Try.cfg) 2 a) (in26 A i out bs c k) = some (.exit 2, out26 A i out (cyc A (f + 1) bs c k))
  | f, bs, c, k, hb, hc, hf, hk, hk' => by
    have hj : k.toNat < bs.length := by omega
    have hg : bs[k.toNat]? = some (bs.getD k.toNat false) := by simp [hj]
    cases hs : bs.getD k.toNat false with
    | true =>
      rw [hs] at hg
      rw [cyc, hs, if_pos rfl]
      exact iter_last (i26b h hv hb (by omega) hk hk' hg) (by simp)
    | false =>
      rw [hs] at hg
      have hcnt := count_set hg
      have hr := valid_range hv (i := k.toNat) (by omega)
      rw [cyc, hs, if_neg (by simp)]
      refine iter_normal (i26a h hv hb (by omega) hk hk' hg) ?_
      obtain ⟨f', rfl⟩ : ∃ f', f = f' + 1 := ⟨f - 1, by omega⟩
      exact inner26 h hv f' (bs.set k.toNat true) (c ++ [k]) (A.getD k.toNat 0) (by simpa using hb) (by simp; omega) (by omega) hr.1 hr.2
end Go.Proofs

/- Cycles: the outer round. -/
set_option linter.unusedVariables false
set_option linter.unusedSimpArgs false
set_option linter.unusedSectionVars false
namespace Go.Proofs
open Go.AI
set_option maxRecDepth 20000
def st26 (A : List Int) (i : Nat) (out : List (List Int)) (bs : List Bool) : St :=
  ([(0, Is A), (4, growR 1 out.length), (5, .ms 2 0 0 A.length 1), (16, I A.length), (17, I i)],
   [.cells true 0 [], .cells true out.length (out.map Is), .cells true 0 (Bs bs)])
theorem under_growR (b m k : Nat) : (growR b m).under k = decide (b < k) := rfl
section
variable {a : Code} (h : loopOf 0 Try.f26 = some a) {A : List Int} (hv : validL A = true) {i : Nat} {out : List (List Int)} {bs : List Bool} (hb : bs.length = A.length) (ho : out.length ≤ 6) (hi : i < A.length)
include h hv hb ho hi
theorem o26b (hs : bs[i]? = some true) : roundA Try.cfg 26 iter (call Try.cfg) 0 a (st26 A i out bs) = some (.normal, st26 A (i + 1) out bs) := by
  cases h
  have h6 := valid_len hv
  simp -implicitDefEqProofs (maxSteps := 1000000) (disch := omega) only [push_cast, ↓dstAt_zero, ↓dstAt_succ, ↓arun_skip, ↓arun_region, ↓arun_seq, ↓arun_cond, ↓arun_block, ↓arun_loop, ↓arun_exit, ↓arun_ret, aops_nil, aops_cons, aops_cons_guard, ↓putA_some, ↓putA_none, ↓aop_move, ↓aop_assign, ↓aop_pick, ↓aop_alloc, ↓aop_box, ↓aop_build, ↓aop_buildSlice, ↓aop_load, ↓aop_store, ↓aop_nilCheck, ↓aop_binOp, ↓aop_unOp, ↓aop_convert, ↓aop_makeSlice, ↓aop_fieldAddr, ↓aop_field, ↓aop_indexAddr, ↓aop_index, ↓aop_lookup, ↓aop_mapUpdate, ↓aop_insert, ↓aop_extract, ↓aop_callB, ↓aop_callF, ↓aop_callT, ↓aop_makeFunc, ↓aop_makeMap, ↓aop_slice, ↓aevs_nil, ↓aevs_cons, ↓evP_nil, ↓evP_cons, ↓aevO_none, ↓aevO_some, ↓reduceIte, reduceCtorEq, Nat.reduceEqDiff, Nat.reduceAdd, Nat.reduceLT, Nat.reduceSub, Nat.reduceMul, Nat.reduceLeDiff, if_true, if_false, if_pos, if_neg, st26, hs, under_growR, decide_true]
  try rfl
theorem o26a (hs : bs[i]? = some false) (hcnt : bs.count false ≤ 6) (q : List Bool × List Int) (hq : q = cyc A 7 bs [] i) (hl : q.2.length ≤ 7) : roundA Try.cfg 26 iter (call Try.cfg) 0 a (st26 A i out bs) = some (.normal, st26 A (i + 1) (out ++ [q.2]) q.1) := by
  have h6 := valid_len hv
  cases h2 : loopOf 2 Try.f26 with
  | none => cases h2
  | some a2 =>
    have hi := inner26 h2 hv (i := i) (out := out) 6 bs [] i hb (by simpa using hcnt) hcnt (by omega) (by omega)
    cases h
    cases h2
    rw [← hq] at hi
    obtain ⟨bs', c'⟩ := q
    simp only [in26, out26, List.length_nil, List.map_nil, growR_zero, Is, Bs] at hi
    cases c' with
    | nil =>
      cases out with
      | nil =>
        simp only [List.length_nil, List.map_nil, List.length_cons, growR_zero, growR_succ] at hi
        simp -implicitDefEqProofs (maxSteps := 1000000) (disch := omega) only [push_cast, ↓dstAt_zero, ↓dstAt_succ, ↓arun_skip, ↓arun_region, ↓arun_seq, ↓arun_cond, ↓arun_block, ↓arun_loop, ↓arun_exit, ↓arun_ret, aops_nil, aops_cons, aops_cons_guard, ↓putA_some, ↓putA_none, ↓aop_move, ↓aop_assign, ↓aop_pick, ↓aop_alloc, ↓aop_box, ↓aop_build, ↓aop_buildSlice, ↓aop_load, ↓aop_store, ↓aop_nilCheck, ↓aop_binOp, ↓aop_unOp, ↓aop_convert, ↓aop_makeSlice, ↓aop_fieldAddr, ↓aop_field, ↓aop_indexAddr, ↓aop_index, ↓aop_lookup, ↓aop_mapUpdate, ↓aop_insert, ↓aop_extract, ↓aop_callB, ↓aop_callF, ↓aop_callT, ↓aop_makeFunc, ↓aop_makeMap, ↓aop_slice, ↓aevs_nil, ↓aevs_cons, ↓evP_nil, ↓evP_cons, ↓aevO_none, ↓aevO_some, ↓reduceIte, reduceCtorEq, Nat.reduceEqDiff, Nat.reduceAdd, Nat.reduceLT, Nat.reduceSub, Nat.reduceMul, Nat.reduceLeDiff, if_true, if_false, if_pos, if_neg, st26, hs, under_growR, decide_true, hi, List.length_nil, growR_zero, growR_succ, List.length_cons]
        try rfl
      | cons y out =>
        have ho' : out.length ≤ 5 := by simpa using ho
        simp only [List.length_nil, List.map_nil, List.length_cons, growR_zero, growR_succ] at hi
        simp -implicitDefEqProofs (maxSteps := 1000000) (disch := omega) only [push_cast, ↓dstAt_zero, ↓dstAt_succ, ↓arun_skip, ↓arun_region, ↓arun_seq, ↓arun_cond, ↓arun_block, ↓arun_loop, ↓arun_exit, ↓arun_ret, aops_nil, aops_cons, aops_cons_guard, ↓putA_some, ↓putA_none, ↓aop_move, ↓aop_assign, ↓aop_pick, ↓aop_alloc, ↓aop_box, ↓aop_build, ↓aop_buildSlice, ↓aop_load, ↓aop_store, ↓aop_nilCheck, ↓aop_binOp, ↓aop_unOp, ↓aop_convert, ↓aop_makeSlice, ↓aop_fieldAddr, ↓aop_field, ↓aop_indexAddr, ↓aop_index, ↓aop_lookup, ↓aop_mapUpdate, ↓aop_insert, ↓aop_extract, ↓aop_callB, ↓aop_callF, ↓aop_callT, ↓aop_makeFunc, ↓aop_makeMap, ↓aop_slice, ↓aevs_nil, ↓aevs_cons, ↓evP_nil, ↓evP_cons, ↓aevO_none, ↓aevO_some, ↓reduceIte, reduceCtorEq, Nat.reduceEqDiff, Nat.reduceAdd, Nat.reduceLT, Nat.reduceSub, Nat.reduceMul, Nat.reduceLeDiff, if_true, if_false, if_pos, if_neg, st26, hs, under_growR, decide_true, hi, List.length_nil, growR_zero, growR_succ, List.length_cons]
        simp only [take_map_cons, List.take_length, underL_app, underL_Is, underL_cons, underL_nil, under_sl, Bool.and_self, if_true, obind_some]
        simp only [List.map_cons, List.map_append, List.map_nil, Is, List.length_cons, List.cons_append, List.length_append, List.length_nil, Nat.zero_add, Nat.add_assoc]
        try rfl
    | cons x c' =>
      have hl' : c'.length ≤ 6 := by simpa using hl
      cases out with
      | nil =>
        simp only [List.length_nil, List.map_nil, List.length_cons, growR_zero, growR_succ] at hi
        simp -implicitDefEqProofs (maxSteps := 1000000) (disch := omega) only [push_cast, ↓dstAt_zero, ↓dstAt_succ, ↓arun_skip, ↓arun_region, ↓arun_seq, ↓arun_cond, ↓arun_block, ↓arun_loop, ↓arun_exit, ↓arun_ret, aops_nil, aops_cons, aops_cons_guard, ↓putA_some, ↓putA_none, ↓aop_move, ↓aop_assign, ↓aop_pick, ↓aop_alloc, ↓aop_box, ↓aop_build, ↓aop_buildSlice, ↓aop_load, ↓aop_store, ↓aop_nilCheck, ↓aop_binOp, ↓aop_unOp, ↓aop_convert, ↓aop_makeSlice, ↓aop_fieldAddr, ↓aop_field, ↓aop_indexAddr, ↓aop_index, ↓aop_lookup, ↓aop_mapUpdate, ↓aop_insert, ↓aop_extract, ↓aop_callB, ↓aop_callF, ↓aop_callT, ↓aop_makeFunc, ↓aop_makeMap, ↓aop_slice, ↓aevs_nil, ↓aevs_cons, ↓evP_nil, ↓evP_cons, ↓aevO_none, ↓aevO_some, ↓reduceIte, reduceCtorEq, Nat.reduceEqDiff, Nat.reduceAdd, Nat.reduceLT, Nat.reduceSub, Nat.reduceMul, Nat.reduceLeDiff, if_true, if_false, if_pos, if_neg, st26, hs, under_growR, decide_true, hi, List.length_nil, growR_zero, growR_succ, List.length_cons]
        simp only [take_map_cons, List.take_length, underL_app, underL_Is, underL_cons, underL_nil, under_sl, Bool.and_self, if_true, obind_some]
        simp only [List.map_cons, List.map_append, List.map_nil, Is, List.length_cons, List.cons_append, List.length_append, List.length_nil, Nat.zero_add, Nat.add_assoc]
        try rfl
      | cons y out =>
        have ho' : out.length ≤ 5 := by simpa using ho
        simp only [List.length_nil, List.map_nil, List.length_cons, growR_zero, growR_succ] at hi
        simp -implicitDefEqProofs (maxSteps := 1000000) (disch := omega) only [push_cast, ↓dstAt_zero, ↓dstAt_succ, ↓arun_skip, ↓arun_region, ↓arun_seq, ↓arun_cond, ↓arun_block, ↓arun_loop, ↓arun_exit, ↓arun_ret, aops_nil, aops_cons, aops_cons_guard, ↓putA_some, ↓putA_none, ↓aop_move, ↓aop_assign, ↓aop_pick, ↓aop_alloc, ↓aop_box, ↓aop_build, ↓aop_buildSlice, ↓aop_load, ↓aop_store, ↓aop_nilCheck, ↓aop_binOp, ↓aop_unOp, ↓aop_convert, ↓aop_makeSlice, ↓aop_fieldAddr, ↓aop_field, ↓aop_indexAddr, ↓aop_index, ↓aop_lookup, ↓aop_mapUpdate, ↓aop_insert, ↓aop_extract, ↓aop_callB, ↓aop_callF, ↓aop_callT, ↓aop_makeFunc, ↓aop_makeMap, ↓aop_slice, ↓aevs_nil, ↓aevs_cons, ↓evP_nil, ↓evP_cons, ↓aevO_none, ↓aevO_some, ↓reduceIte, reduceCtorEq, Nat.reduceEqDiff, Nat.reduceAdd, Nat.reduceLT, Nat.reduceSub, Nat.reduceMul, Nat.reduceLeDiff, if_true, if_false, if_pos, if_neg, st26, hs, under_growR, decide_true, hi, List.length_nil, growR_zero, growR_succ, List.length_cons]
        simp only [take_map_cons, List.take_length, underL_app, underL_Is, underL_cons, underL_nil, under_sl, Bool.and_self, if_true, obind_some]
        simp only [List.map_cons, List.map_append, List.map_nil, Is, List.length_cons, List.cons_append, List.length_append, List.length_nil, Nat.zero_add, Nat.add_assoc]
        try rfl
end
end Go.Proofs

/- Cycles: the outer loop, the function. -/
set_option linter.unusedVariables false
set_option linter.unusedSimpArgs false
set_option linter.unusedSectionVars false
namespace Go.Proofs
open Go.AI
set_option maxRecDepth 20000
theorem cyc_len1 (A : List Int) : ∀ (f : Nat) (bs : List Bool) (c : List Int) (k : Int), (cyc A f bs c k).1.length = bs.length
  | 0, bs, c, k => rfl
  | f + 1, bs, c, k => by
    rw [cyc]
    split
    · rfl
    · rw [cyc_len1]; simp
theorem cyc_len2 (A : List Int) : ∀ (f : Nat) (bs : List Bool) (c : List Int) (k : Int), (cyc A f bs c k).2.length ≤ c.length + f
  | 0, bs, c, k => by simp [cyc]
  | f + 1, bs, c, k => by
    rw [cyc]
    split
    · simp
    · have := cyc_len2 A f (bs.set k.toNat true) (c ++ [k]) (A.getD k.toNat 0)
      simp at this ⊢
      omega
/-- One step of the outer loop. -/
def cycStep (A : List Int) (i : Nat) (s : List (List Int) × List Bool) : List (List Int) × List Bool :=
  if s.2.getD i false then s else (s.1 ++ [(cyc A 7 s.2 [] i).2], (cyc A 7 s.2 [] i).1)
def cycAll (A : List Int) : Nat → List (List Int) × List Bool
  | 0 => ([], List.replicate A.length false)
  | i + 1 => cycStep A i (cycAll A i)
theorem cycAll_len (A : List Int) : ∀ i, (cycAll A i).2.length = A.length ∧ (cycAll A i).1.length ≤ i
  | 0 => by simp [cycAll]
  | i + 1 => by
    have h := cycAll_len A i
    simp only [cycAll, cycStep]
    split
    · exact ⟨h.1, by omega⟩
    · refine ⟨?_, ?_⟩
      · show (cyc A 7 _ [] _).1.length = _
        rw [cyc_len1]; exact h.1
      · simp; omega
def cycL (A : List Int) : List (List Int) × Int := if validL A then ((cycAll A A.length).1, 0) else ([], 1)
def repL2 (r : List (List Int) × Int) : AV := .tu [Iss r.1, I r.2]
theorem count_le {bs : List Bool} {n : Nat} (h : bs.length ≤ n) : bs.count false ≤ n := Nat.le_trans List.count_le_length h
theorem o26c {a : Code} (h : loopOf 0 Try.f26 = some a) {A : List Int} (hv : validL A = true) {out : List (List Int)} {bs : List Bool} (ho : out.length ≤ 6) : roundA Try.cfg 26 iter (call Try.cfg) 0 a (st26 A A.length out bs) = some (.exit 0, [(4, growR 1 out.length)], [.cells true 0 [], .cells true out.length (out.map Is), .cells true 0 (Bs bs)]) := by
  cases h
  have h6 := valid_len hv
  simp -implicitDefEqProofs (maxSteps := 1000000) (disch := omega) only [push_cast, ↓dstAt_zero, ↓dstAt_succ, ↓arun_skip, ↓arun_region, ↓arun_seq, ↓arun_cond, ↓arun_block, ↓arun_loop, ↓arun_exit, ↓arun_ret, aops_nil, aops_cons, aops_cons_guard, ↓putA_some, ↓putA_none, ↓aop_move, ↓aop_assign, ↓aop_pick, ↓aop_alloc, ↓aop_box, ↓aop_build, ↓aop_buildSlice, ↓aop_load, ↓aop_store, ↓aop_nilCheck, ↓aop_binOp, ↓aop_unOp, ↓aop_convert, ↓aop_makeSlice, ↓aop_fieldAddr, ↓aop_field, ↓aop_indexAddr, ↓aop_index, ↓aop_lookup, ↓aop_mapUpdate, ↓aop_insert, ↓aop_extract, ↓aop_callB, ↓aop_callF, ↓aop_callT, ↓aop_makeFunc, ↓aop_makeMap, ↓aop_slice, ↓aevs_nil, ↓aevs_cons, ↓evP_nil, ↓evP_cons, ↓aevO_none, ↓aevO_some, ↓reduceIte, reduceCtorEq, Nat.reduceEqDiff, Nat.reduceAdd, Nat.reduceLT, Nat.reduceSub, Nat.reduceMul, Nat.reduceLeDiff, if_true, if_false, if_pos, if_neg, st26]
theorem l26 {a : Code} (h : loopOf 0 Try.f26 = some a) {A : List Int} (hv : validL A = true) : iter (roundA Try.cfg 26 iter (call Try.cfg) 0 a) (st26 A 0 (cycAll A 0).1 (cycAll A 0).2) = some (.exit 0, [(4, growR 1 (cycAll A A.length).1.length)], [.cells true 0 [], .cells true (cycAll A A.length).1.length ((cycAll A A.length).1.map Is), .cells true 0 (Bs (cycAll A A.length).2)]) := by
  have h6 := valid_len hv
  refine iter_run (S := fun i => st26 A i (cycAll A i).1 (cycAll A i).2) (n := A.length) (fun i hi => ?_) (o26c h hv (by have := (cycAll_len A A.length).2; omega)) (by simp) A.length 0 (by omega)
  have hl := cycAll_len A i
  have hg : (cycAll A i).2[i]? = some ((cycAll A i).2.getD i false) := by
    have : i < (cycAll A i).2.length := by omega
    simp [this]
  show _ = some (Ex.normal, st26 A (i + 1) (cycStep A i (cycAll A i)).1 (cycStep A i (cycAll A i)).2)
  cases hs : (cycAll A i).2.getD i false with
  | true =>
    rw [hs] at hg
    simp only [cycStep, hs, if_true]
    exact o26b h hv hl.1 (by omega) hi hg
  | false =>
    rw [hs] at hg
    simp only [cycStep, hs, Bool.false_eq_true, if_false]
    exact o26a h hv hl.1 (by omega) hi hg (count_le (by omega)) _ rfl (by have := cyc_len2 A 7 (cycAll A i).2 [] i; simpa using this)
theorem call26 {A : List Int} (hA : A.length ≤ 1000) : call Try.cfg 26 [Is A] [] = some (repL2 (cycL A), []) := by
  refine call_step ?_
  have v1 := call23u hA
  cases hv : validL A with
  | false =>
    rw [hv] at v1
    have e : cycL A = ([], 1) := by simp [cycL, hv]
    rw [e]
    simp -implicitDefEqProofs (maxSteps := 1000000) (disch := omega) only [stepA, bodyA, Try.cfgO, Try.sh26, Try.sh23, Try.func26, Try.f26, push_cast, ↓dstAt_zero, ↓dstAt_succ, ↓arun_skip, ↓arun_region, ↓arun_seq, ↓arun_cond, ↓arun_block, ↓arun_loop, ↓arun_exit, ↓arun_ret, aops_nil, aops_cons, aops_cons_guard, ↓putA_some, ↓putA_none, ↓aop_move, ↓aop_assign, ↓aop_pick, ↓aop_alloc, ↓aop_box, ↓aop_build, ↓aop_buildSlice, ↓aop_load, ↓aop_store, ↓aop_nilCheck, ↓aop_binOp, ↓aop_unOp, ↓aop_convert, ↓aop_makeSlice, ↓aop_fieldAddr, ↓aop_field, ↓aop_indexAddr, ↓aop_index, ↓aop_lookup, ↓aop_mapUpdate, ↓aop_insert, ↓aop_extract, ↓aop_callB, ↓aop_callF, ↓aop_callT, ↓aop_makeFunc, ↓aop_makeMap, ↓aop_slice, ↓aevs_nil, ↓aevs_cons, ↓evP_nil, ↓evP_cons, ↓aevO_none, ↓aevO_some, ↓reduceIte, reduceCtorEq, Nat.reduceEqDiff, Nat.reduceAdd, Nat.reduceLT, Nat.reduceSub, Nat.reduceMul, Nat.reduceLeDiff, if_true, if_false, if_pos, if_neg, v1, repL2, Iss]
    try rfl
  | true =>
    rw [hv] at v1
    have h6 := valid_len hv
    have e : cycL A = ((cycAll A A.length).1, 0) := by simp [cycL, hv]
    rw [e]
    cases hl : loopOf 0 Try.f26 with
    | none => cases hl
    | some a =>
      have hH := l26 hl hv
      cases hl
      have hlen := (cycAll_len A A.length).2
      have e0 : cycAll A 0 = ([], List.replicate A.length false) := rfl
      simp only [st26, Is, Bs, Int.natCast_zero, e0, List.length_nil, growR_zero, List.map_nil] at hH
      generalize cycAll A A.length = q at *
      obtain ⟨out, bs⟩ := q
      simp only at hH hlen ⊢
      cases out with
      | nil =>
        simp only [List.length_nil, growR_zero, List.map_nil] at hH
        simp -implicitDefEqProofs (maxSteps := 1000000) (disch := omega) only [stepA, bodyA, Try.cfgO, Try.sh26, Try.sh23, Try.func26, Try.f26, push_cast, ↓dstAt_zero, ↓dstAt_succ, ↓arun_skip, ↓arun_region, ↓arun_seq, ↓arun_cond, ↓arun_block, ↓arun_loop, ↓arun_exit, ↓arun_ret, aops_nil, aops_cons, aops_cons_guard, ↓putA_some, ↓putA_none, ↓aop_move, ↓aop_assign, ↓aop_pick, ↓aop_alloc, ↓aop_box, ↓aop_build, ↓aop_buildSlice, ↓aop_load, ↓aop_store, ↓aop_nilCheck, ↓aop_binOp, ↓aop_unOp, ↓aop_convert, ↓aop_makeSlice, ↓aop_fieldAddr, ↓aop_field, ↓aop_indexAddr, ↓aop_index, ↓aop_lookup, ↓aop_mapUpdate, ↓aop_insert, ↓aop_extract, ↓aop_callB, ↓aop_callF, ↓aop_callT, ↓aop_makeFunc, ↓aop_makeMap, ↓aop_slice, ↓aevs_nil, ↓aevs_cons, ↓evP_nil, ↓evP_cons, ↓aevO_none, ↓aevO_some, ↓reduceIte, reduceCtorEq, Nat.reduceEqDiff, Nat.reduceAdd, Nat.reduceLT, Nat.reduceSub, Nat.reduceMul, Nat.reduceLeDiff, if_true, if_false, if_pos, if_neg, v1, hH, repL2, Iss]
        try rfl
      | cons y out =>
        have hlen' : out.length < 6 := by simp at hlen; omega
        simp only [List.length_cons, growR_succ] at hH
        simp -implicitDefEqProofs (maxSteps := 1000000) (disch := omega) only [stepA, bodyA, Try.cfgO, Try.sh26, Try.sh23, Try.func26, Try.f26, push_cast, ↓dstAt_zero, ↓dstAt_succ, ↓arun_skip, ↓arun_region, ↓arun_seq, ↓arun_cond, ↓arun_block, ↓arun_loop, ↓arun_exit, ↓arun_ret, aops_nil, aops_cons, aops_cons_guard, ↓putA_some, ↓putA_none, ↓aop_move, ↓aop_assign, ↓aop_pick, ↓aop_alloc, ↓aop_box, ↓aop_build, ↓aop_buildSlice, ↓aop_load, ↓aop_store, ↓aop_nilCheck, ↓aop_binOp, ↓aop_unOp, ↓aop_convert, ↓aop_makeSlice, ↓aop_fieldAddr, ↓aop_field, ↓aop_indexAddr, ↓aop_index, ↓aop_lookup, ↓aop_mapUpdate, ↓aop_insert, ↓aop_extract, ↓aop_callB, ↓aop_callF, ↓aop_callT, ↓aop_makeFunc, ↓aop_makeMap, ↓aop_slice, ↓aevs_nil, ↓aevs_cons, ↓evP_nil, ↓evP_cons, ↓aevO_none, ↓aevO_some, ↓reduceIte, reduceCtorEq, Nat.reduceEqDiff, Nat.reduceAdd, Nat.reduceLT, Nat.reduceSub, Nat.reduceMul, Nat.reduceLeDiff, if_true, if_false, if_pos, if_neg, v1, hH, repL2, Iss, take_map_cons]
        try rfl
end Go.Proofs

/- SmallLists. -/
set_option linter.unusedVariables false
set_option linter.unusedSimpArgs false
set_option linter.unusedSectionVars false
namespace Go.Proofs
open Go.AI
set_option maxRecDepth 20000
def smallL (L : List (List Int)) (k m : Nat) : Bool := decide (L.length ≤ k) && (List.range' 0 L.length).all fun i => decide ((gt L i).length ≤ m)
theorem smallL_iff {L : List (List Int)} {k m : Nat} : smallL L k m = true ↔ L.length ≤ k ∧ ∀ x ∈ L, x.length ≤ m := by
  simp only [smallL, Bool.and_eq_true, decide_eq_true_eq, List.all_eq_true, List.mem_range', Nat.one_mul]
  constructor
  · rintro ⟨h1, h2⟩
    refine ⟨h1, fun x hx => ?_⟩
    obtain ⟨j, hj⟩ := List.mem_iff_getElem?.1 hx
    have hjl := lt_of_get hj
    rw [gt_some hjl] at hj
    cases hj
    exact h2 j ⟨j, hjl, by omega⟩
  · rintro ⟨h1, h2⟩
    refine ⟨h1, ?_⟩
    rintro x ⟨i, h3, rfl⟩
    exact h2 _ (List.mem_of_getElem? (gt_some (by omega)))
section
variable {a : Code} (h : loopOf 0 Try.f7 = some a) {L : List (List Int)} {m : Nat} (hL : L.length ≤ 1000) (hs : ∀ x ∈ L, x.length ≤ 9223372036854775807) (hm : m ≤ 1000)
include h hL hs hm
def s7 (L : List (List Int)) (m i : Nat) : St := ([(0, Iss L), (2, I m), (7, I i)], [])
theorem r7 {i : Nat} (hi : i < L.length) : roundA Try.cfg 7 iter (call Try.cfg) 0 a (s7 L m i) = some (if decide ((gt L i).length ≤ m) = true then (.normal, s7 L m (i + 1)) else (.ret, [(6, .v (.bool false))], [])) := by
  have hx := gt_some hi
  have hl := hs _ (List.mem_of_getElem? hx)
  cases h
  generalize gt L i = x at *
  by_cases hle : x.length ≤ m
  · rw [if_pos (decide_eq_true hle)]
    simp -implicitDefEqProofs (maxSteps := 1000000) (disch := omega) only [push_cast, ↓dstAt_zero, ↓dstAt_succ, ↓arun_skip, ↓arun_region, ↓arun_seq, ↓arun_cond, ↓arun_block, ↓arun_loop, ↓arun_exit, ↓arun_ret, aops_nil, aops_cons, aops_cons_guard, ↓putA_some, ↓putA_none, ↓aop_move, ↓aop_assign, ↓aop_pick, ↓aop_alloc, ↓aop_box, ↓aop_build, ↓aop_buildSlice, ↓aop_load, ↓aop_store, ↓aop_nilCheck, ↓aop_binOp, ↓aop_unOp, ↓aop_convert, ↓aop_makeSlice, ↓aop_fieldAddr, ↓aop_field, ↓aop_indexAddr, ↓aop_index, ↓aop_lookup, ↓aop_mapUpdate, ↓aop_insert, ↓aop_extract, ↓aop_callB, ↓aop_callF, ↓aop_callT, ↓aop_makeFunc, ↓aop_makeMap, ↓aop_slice, ↓aevs_nil, ↓aevs_cons, ↓evP_nil, ↓evP_cons, ↓aevO_none, ↓aevO_some, ↓reduceIte, reduceCtorEq, Nat.reduceEqDiff, Nat.reduceAdd, Nat.reduceLT, Nat.reduceSub, Nat.reduceMul, Nat.reduceLeDiff, if_true, if_false, if_pos, if_neg, s7, Iss, hx]
  · rw [if_neg (by simpa using hle)]
    simp -implicitDefEqProofs (maxSteps := 1000000) (disch := omega) only [push_cast, ↓dstAt_zero, ↓dstAt_succ, ↓arun_skip, ↓arun_region, ↓arun_seq, ↓arun_cond, ↓arun_block, ↓arun_loop, ↓arun_exit, ↓arun_ret, aops_nil, aops_cons, aops_cons_guard, ↓putA_some, ↓putA_none, ↓aop_move, ↓aop_assign, ↓aop_pick, ↓aop_alloc, ↓aop_box, ↓aop_build, ↓aop_buildSlice, ↓aop_load, ↓aop_store, ↓aop_nilCheck, ↓aop_binOp, ↓aop_unOp, ↓aop_convert, ↓aop_makeSlice, ↓aop_fieldAddr, ↓aop_field, ↓aop_indexAddr, ↓aop_index, ↓aop_lookup, ↓aop_mapUpdate, ↓aop_insert, ↓aop_extract, ↓aop_callB, ↓aop_callF, ↓aop_callT, ↓aop_makeFunc, ↓aop_makeMap, ↓aop_slice, ↓aevs_nil, ↓aevs_cons, ↓evP_nil, ↓evP_cons, ↓aevO_none, ↓aevO_some, ↓reduceIte, reduceCtorEq, Nat.reduceEqDiff, Nat.reduceAdd, Nat.reduceLT, Nat.reduceSub, Nat.reduceMul, Nat.reduceLeDiff, if_true, if_false, if_pos, if_neg, s7, Iss, hx]
theorem r7e : roundA Try.cfg 7 iter (call Try.cfg) 0 a (s7 L m L.length) = some (.exit 0, [], []) := by
  cases h
  simp -implicitDefEqProofs (maxSteps := 1000000) (disch := omega) only [push_cast, ↓dstAt_zero, ↓dstAt_succ, ↓arun_skip, ↓arun_region, ↓arun_seq, ↓arun_cond, ↓arun_block, ↓arun_loop, ↓arun_exit, ↓arun_ret, aops_nil, aops_cons, aops_cons_guard, ↓putA_some, ↓putA_none, ↓aop_move, ↓aop_assign, ↓aop_pick, ↓aop_alloc, ↓aop_box, ↓aop_build, ↓aop_buildSlice, ↓aop_load, ↓aop_store, ↓aop_nilCheck, ↓aop_binOp, ↓aop_unOp, ↓aop_convert, ↓aop_makeSlice, ↓aop_fieldAddr, ↓aop_field, ↓aop_indexAddr, ↓aop_index, ↓aop_lookup, ↓aop_mapUpdate, ↓aop_insert, ↓aop_extract, ↓aop_callB, ↓aop_callF, ↓aop_callT, ↓aop_makeFunc, ↓aop_makeMap, ↓aop_slice, ↓aevs_nil, ↓aevs_cons, ↓evP_nil, ↓evP_cons, ↓aevO_none, ↓aevO_some, ↓reduceIte, reduceCtorEq, Nat.reduceEqDiff, Nat.reduceAdd, Nat.reduceLT, Nat.reduceSub, Nat.reduceMul, Nat.reduceLeDiff, if_true, if_false, if_pos, if_neg, s7, Iss, Int.lt_irrefl]
end
theorem call7 {L : List (List Int)} {k m : Nat} (hL : L.length ≤ 9223372036854775807) (hs : ∀ x ∈ L, x.length ≤ 9223372036854775807) (hm : m ≤ 1000) (hk : k ≤ 1000) : call Try.cfg 7 [.sl false L.length (L.map Is), .v (.int .i64 k), .v (.int .i64 m)] [] = some (.v (.bool (smallL L k m)), []) := by
  refine call_step ?_
  by_cases hle : L.length ≤ k
  · cases h0 : loopOf 0 Try.f7 with
    | none => cases h0
    | some a =>
      have hH := iter_all (S := fun i => s7 L m i) (q := fun i => decide ((gt L i).length ≤ m)) (n := L.length) (fun i hi hq => by have := r7 h0 (by omega) hs hm hi; rw [if_pos hq] at this; exact this)
        (fun i hi hq => by have := r7 h0 (by omega) hs hm hi; rw [if_neg (by rw [hq]; simp)] at this; exact this) (r7e h0 (by omega) hs hm) (by simp) (by simp) L.length 0 (by omega)
      have e : smallL L k m = (List.range' 0 L.length).all fun i => decide ((gt L i).length ≤ m) := by simp [smallL, hle]
      rw [e]
      cases h0
      simp only [s7, Iss, Int.natCast_zero] at hH
      cases hq : (List.range' 0 L.length).all fun i => decide ((gt L i).length ≤ m) with
      | true =>
        rw [hq, if_pos rfl] at hH
        simp -implicitDefEqProofs (maxSteps := 1000000) (disch := omega) only [stepA, bodyA, Try.f7, push_cast, ↓dstAt_zero, ↓dstAt_succ, ↓arun_skip, ↓arun_region, ↓arun_seq, ↓arun_cond, ↓arun_block, ↓arun_loop, ↓arun_exit, ↓arun_ret, aops_nil, aops_cons, aops_cons_guard, ↓putA_some, ↓putA_none, ↓aop_move, ↓aop_assign, ↓aop_pick, ↓aop_alloc, ↓aop_box, ↓aop_build, ↓aop_buildSlice, ↓aop_load, ↓aop_store, ↓aop_nilCheck, ↓aop_binOp, ↓aop_unOp, ↓aop_convert, ↓aop_makeSlice, ↓aop_fieldAddr, ↓aop_field, ↓aop_indexAddr, ↓aop_index, ↓aop_lookup, ↓aop_mapUpdate, ↓aop_insert, ↓aop_extract, ↓aop_callB, ↓aop_callF, ↓aop_callT, ↓aop_makeFunc, ↓aop_makeMap, ↓aop_slice, ↓aevs_nil, ↓aevs_cons, ↓evP_nil, ↓evP_cons, ↓aevO_none, ↓aevO_some, ↓reduceIte, reduceCtorEq, Nat.reduceEqDiff, Nat.reduceAdd, Nat.reduceLT, Nat.reduceSub, Nat.reduceMul, Nat.reduceLeDiff, if_true, if_false, if_pos, if_neg, hH]
      | false =>
        rw [hq, if_neg (by simp)] at hH
        simp -implicitDefEqProofs (maxSteps := 1000000) (disch := omega) only [stepA, bodyA, Try.f7, push_cast, ↓dstAt_zero, ↓dstAt_succ, ↓arun_skip, ↓arun_region, ↓arun_seq, ↓arun_cond, ↓arun_block, ↓arun_loop, ↓arun_exit, ↓arun_ret, aops_nil, aops_cons, aops_cons_guard, ↓putA_some, ↓putA_none, ↓aop_move, ↓aop_assign, ↓aop_pick, ↓aop_alloc, ↓aop_box, ↓aop_build, ↓aop_buildSlice, ↓aop_load, ↓aop_store, ↓aop_nilCheck, ↓aop_binOp, ↓aop_unOp, ↓aop_convert, ↓aop_makeSlice, ↓aop_fieldAddr, ↓aop_field, ↓aop_indexAddr, ↓aop_index, ↓aop_lookup, ↓aop_mapUpdate, ↓aop_insert, ↓aop_extract, ↓aop_callB, ↓aop_callF, ↓aop_callT, ↓aop_makeFunc, ↓aop_makeMap, ↓aop_slice, ↓aevs_nil, ↓aevs_cons, ↓evP_nil, ↓evP_cons, ↓aevO_none, ↓aevO_some, ↓reduceIte, reduceCtorEq, Nat.reduceEqDiff, Nat.reduceAdd, Nat.reduceLT, Nat.reduceSub, Nat.reduceMul, Nat.reduceLeDiff, if_true, if_false, if_pos, if_neg, hH]
  · have e : smallL L k m = false := by simp [smallL, hle]
    rw [e]
    simp -implicitDefEqProofs (maxSteps := 1000000) (disch := omega) only [stepA, bodyA, Try.f7, push_cast, ↓dstAt_zero, ↓dstAt_succ, ↓arun_skip, ↓arun_region, ↓arun_seq, ↓arun_cond, ↓arun_block, ↓arun_loop, ↓arun_exit, ↓arun_ret, aops_nil, aops_cons, aops_cons_guard, ↓putA_some, ↓putA_none, ↓aop_move, ↓aop_assign, ↓aop_pick, ↓aop_alloc, ↓aop_box, ↓aop_build, ↓aop_buildSlice, ↓aop_load, ↓aop_store, ↓aop_nilCheck, ↓aop_binOp, ↓aop_unOp, ↓aop_convert, ↓aop_makeSlice, ↓aop_fieldAddr, ↓aop_field, ↓aop_indexAddr, ↓aop_index, ↓aop_lookup, ↓aop_mapUpdate, ↓aop_insert, ↓aop_extract, ↓aop_callB, ↓aop_callF, ↓aop_callT, ↓aop_makeFunc, ↓aop_makeMap, ↓aop_slice, ↓aevs_nil, ↓aevs_cons, ↓evP_nil, ↓evP_cons, ↓aevO_none, ↓aevO_some, ↓reduceIte, reduceCtorEq, Nat.reduceEqDiff, Nat.reduceAdd, Nat.reduceLT, Nat.reduceSub, Nat.reduceMul, Nat.reduceLeDiff, if_true, if_false, if_pos, if_neg]
end Go.Proofs

/- ref.Cycles. -/
set_option linter.unusedVariables false
set_option linter.unusedSimpArgs false
set_option linter.unusedSectionVars false
namespace Go.Proofs
open Go.AI
set_option maxRecDepth 20000
def in27 (A : List Int) (i : Nat) (out : List (List Int)) (bs : List Bool) (c : List Int) (k : Int) : St :=
  ([(0, Is A), (4, growR 1 out.length), (5, .ms 2 0 0 A.length 1), (6, I i), (7, growR 3 c.length), (8, I k)],
   [.cells true 0 [], .cells true out.length (out.map Is), .cells true 0 (Bs bs), .cells true c.length (c.map I)])
section
variable {a : Code} (h : loopOf 2 Try.f27 = some a) {A : List Int} (hv : validL A = true) {i : Nat} {out : List (List Int)} {bs : List Bool} (hb : bs.length = A.length) {c : List Int} (hc : c.length ≤ 6) {k : Int} (hk : 0 ≤ k) (hk' : k < A.length)
include h hv hb hc hk hk'
theorem i27b (hs : bs[k.toNat]? = some true) : roundA Try.cfg 27 iter (call Try.cfg) 2 a (in27 A i out bs c k) = some (.exit 2, [(0, Is A), (4, growR 1 out.length), (5, .ms 2 0 0 A.length 1), (6, I i), (7, growR 3 c.length)],
   [.cells true 0 [], .cells true out.length (out.map Is), .cells true 0 (Bs bs), .cells true c.length (c.map I)]) := by
  cases h
  have h6 := valid_len hv
  simp -implicitDefEqProofs (maxSteps := 1000000) (disch := omega) only [push_cast, ↓dstAt_zero, ↓dstAt_succ, ↓arun_skip, ↓arun_region, ↓arun_seq, ↓arun_cond, ↓arun_block, ↓arun_loop, ↓arun_exit, ↓arun_ret, aops_nil, aops_cons, aops_cons_guard, ↓putA_some, ↓putA_none, ↓aop_move, ↓aop_assign, ↓aop_pick, ↓aop_alloc, ↓aop_box, ↓aop_build, ↓aop_buildSlice, ↓aop_load, ↓aop_store, ↓aop_nilCheck, ↓aop_binOp, ↓aop_unOp, ↓aop_convert, ↓aop_makeSlice, ↓aop_fieldAddr, ↓aop_field, ↓aop_indexAddr, ↓aop_index, ↓aop_lookup, ↓aop_mapUpdate, ↓aop_insert, ↓aop_extract, ↓aop_callB, ↓aop_callF, ↓aop_callT, ↓aop_makeFunc, ↓aop_makeMap, ↓aop_slice, ↓aevs_nil, ↓aevs_cons, ↓evP_nil, ↓evP_cons, ↓aevO_none, ↓aevO_some, ↓reduceIte, reduceCtorEq, Nat.reduceEqDiff, Nat.reduceAdd, Nat.reduceLT, Nat.reduceSub, Nat.reduceMul, Nat.reduceLeDiff, if_true, if_false, if_pos, if_neg, in27, hs]
theorem i27a (hs : bs[k.toNat]? = some false) : roundA Try.cfg 27 iter (call Try.cfg) 2 a (in27 A i out bs c k) = some (.normal, in27 A i out (bs.set k.toNat true) (c ++ [k]) (A.getD k.toNat 0)) := by
  cases h
  have h6 := valid_len hv
  have hx : A[k.toNat]? = some (A.getD k.toNat 0) := by
    have : k.toNat < A.length := by omega
    simp [this]
  generalize A.getD k.toNat 0 = x at *
  cases c with
  | nil =>
    simp -implicitDefEqProofs (maxSteps := 1000000) (disch := omega) only [push_cast, ↓dstAt_zero, ↓dstAt_succ, ↓arun_skip, ↓arun_region, ↓arun_seq, ↓arun_cond, ↓arun_block, ↓arun_loop, ↓arun_exit, ↓arun_ret, aops_nil, aops_cons, aops_cons_guard, ↓putA_some, ↓putA_none, ↓aop_move, ↓aop_assign, ↓aop_pick, ↓aop_alloc, ↓aop_box, ↓aop_build, ↓aop_buildSlice, ↓aop_load, ↓aop_store, ↓aop_nilCheck, ↓aop_binOp, ↓aop_unOp, ↓aop_convert, ↓aop_makeSlice, ↓aop_fieldAddr, ↓aop_field, ↓aop_indexAddr, ↓aop_index, ↓aop_lookup, ↓aop_mapUpdate, ↓aop_insert, ↓aop_extract, ↓aop_callB, ↓aop_callF, ↓aop_callT, ↓aop_makeFunc, ↓aop_makeMap, ↓aop_slice, ↓aevs_nil, ↓aevs_cons, ↓evP_nil, ↓evP_cons, ↓aevO_none, ↓aevO_some, ↓reduceIte, reduceCtorEq, Nat.reduceEqDiff, Nat.reduceAdd, Nat.reduceLT, Nat.reduceSub, Nat.reduceMul, Nat.reduceLeDiff, if_true, if_false, if_pos, if_neg, in27, hs, hx, growR_zero]
    try rfl
  | cons y c =>
    have hc' : c.length ≤ 5 := by simpa using hc
    simp -implicitDefEqProofs (maxSteps := 1000000) (disch := omega) only [push_cast, ↓dstAt_zero, ↓dstAt_succ, ↓arun_skip, ↓arun_region, ↓arun_seq, ↓arun_cond, ↓arun_block, ↓arun_loop, ↓arun_exit, ↓arun_ret, aops_nil, aops_cons, aops_cons_guard, ↓putA_some, ↓putA_none, ↓aop_move, ↓aop_assign, ↓aop_pick, ↓aop_alloc, ↓aop_box, ↓aop_build, ↓aop_buildSlice, ↓aop_load, ↓aop_store, ↓aop_nilCheck, ↓aop_binOp, ↓aop_unOp, ↓aop_convert, ↓aop_makeSlice, ↓aop_fieldAddr, ↓aop_field, ↓aop_indexAddr, ↓aop_index, ↓aop_lookup, ↓aop_mapUpdate, ↓aop_insert, ↓aop_extract, ↓aop_callB, ↓aop_callF, ↓aop_callT, ↓aop_makeFunc, ↓aop_makeMap, ↓aop_slice, ↓aevs_nil, ↓aevs_cons, ↓evP_nil, ↓evP_cons, ↓aevO_none, ↓aevO_some, ↓reduceIte, reduceCtorEq, Nat.reduceEqDiff, Nat.reduceAdd, Nat.reduceLT, Nat.reduceSub, Nat.reduceMul, Nat.reduceLeDiff, if_true, if_false, if_pos, if_neg, in27, hs, hx, growR_succ, Nat.min_self, List.take_length]
end
def out27 (A : List Int) (i : Nat) (out : List (List Int)) (q : List Bool × List Int) : St :=
  ([(0, Is A), (4, growR 1 out.length), (5, .ms 2 0 0 A.length 1), (6, I i), (7, growR 3 q.2.length)],
   [.cells true 0 [], .cells true out.length (out.map Is), .cells true 0 (Bs q.1), .cells true q.2.length (q.2.map I)])
theorem inner27 {a : Code} (h : loopOf 2 Try.f27 = some a) {A : List Int} (hv : validL A = true) {i : Nat} {out : List (List Int)} : ∀ (f : Nat) (bs : List Bool) (c : List Int) (k : Int), bs.length = A.length → c.length + bs.count false ≤ 6 → bs.count false ≤ f → 0 ≤ k → k < A.length →
    iter (roundA Try.cfg 27 iter (call Try.cfg) 2 a) (in27 A i out bs c k) = some (.exit 2, out27 A i out (cyc A (f + 1) bs c k))
  | f, bs, c, k, hb, hc, hf, hk, hk' => by
    have hj : k.toNat < bs.length := by omega
    have hg : bs[k.toNat]? = some (bs.getD k.toNat false) := by simp [hj]
    cases hs : bs.getD k.toNat false with
    | true =>
      rw [hs] at hg
      rw [cyc, hs, if_pos rfl]
      exact iter_last (i27b h hv hb (by omega) hk hk' hg) (by simp)
    | false =>
      rw [hs] at hg
      have hcnt := count_set hg
      have hr := valid_range hv (i := k.toNat) (by omega)
      rw [cyc, hs, if_neg (by simp)]
      refine iter_normal (i27a h hv hb (by omega) hk hk' hg) ?_
      obtain ⟨f', rfl⟩ : ∃ f', f = f' + 1 := ⟨f - 1, by omega⟩
      exact inner27 h hv f' (bs.set k.toNat true) (c ++ [k]) (A.getD k.toNat 0) (by simpa using hb) (by simp; omega) (by omega) hr.1 hr.2
def st27 (A : List Int) (i : Nat) (out : List (List Int)) (bs : List Bool) : St :=
  ([(0, Is A), (4, growR 1 out.length), (5, .ms 2 0 0 A.length 1), (6, I i)],
   [.cells true 0 [], .cells true out.length (out.map Is), .cells true 0 (Bs bs)])
section
variable {a : Code} (h : loopOf 0 Try.f27 = some a) {A : List Int} (hv : validL A = true) {i : Nat} {out : List (List Int)} {bs : List Bool} (hb : bs.length = A.length) (ho : out.length ≤ 6) (hi : i < A.length)
include h hv hb ho hi
theorem o27 (hcnt : bs.count false ≤ 6) (q : List Bool × List Int) (hq : q = cyc A 7 bs [] i) (hl : q.2.length ≤ 7) : roundA Try.cfg 27 iter (call Try.cfg) 0 a (st27 A i out bs) = some (.normal, st27 A (i + 1) (if q.2 = [] then out else out ++ [q.2]) q.1) := by
  have h6 := valid_len hv
  cases h2 : loopOf 2 Try.f27 with
  | none => cases h2
  | some a2 =>
    have hi := inner27 h2 hv (i := i) (out := out) 6 bs [] i hb (by simpa using hcnt) hcnt (by omega) (by omega)
    cases h
    cases h2
    rw [← hq] at hi
    obtain ⟨bs', c'⟩ := q
    simp only [in27, out27, List.length_nil, List.map_nil, growR_zero, Is, Bs] at hi
    cases c' with
    | nil =>
      simp only [if_true]
      cases out with
      | nil =>
        simp only [List.length_nil, List.map_nil, List.length_cons, growR_zero, growR_succ] at hi
        simp -implicitDefEqProofs (maxSteps := 1000000) (disch := omega) only [push_cast, ↓dstAt_zero, ↓dstAt_succ, ↓arun_skip, ↓arun_region, ↓arun_seq, ↓arun_cond, ↓arun_block, ↓arun_loop, ↓arun_exit, ↓arun_ret, aops_nil, aops_cons, aops_cons_guard, ↓putA_some, ↓putA_none, ↓aop_move, ↓aop_assign, ↓aop_pick, ↓aop_alloc, ↓aop_box, ↓aop_build, ↓aop_buildSlice, ↓aop_load, ↓aop_store, ↓aop_nilCheck, ↓aop_binOp, ↓aop_unOp, ↓aop_convert, ↓aop_makeSlice, ↓aop_fieldAddr, ↓aop_field, ↓aop_indexAddr, ↓aop_index, ↓aop_lookup, ↓aop_mapUpdate, ↓aop_insert, ↓aop_extract, ↓aop_callB, ↓aop_callF, ↓aop_callT, ↓aop_makeFunc, ↓aop_makeMap, ↓aop_slice, ↓aevs_nil, ↓aevs_cons, ↓evP_nil, ↓evP_cons, ↓aevO_none, ↓aevO_some, ↓reduceIte, reduceCtorEq, Nat.reduceEqDiff, Nat.reduceAdd, Nat.reduceLT, Nat.reduceSub, Nat.reduceMul, Nat.reduceLeDiff, if_true, if_false, if_pos, if_neg, st27, under_growR, hi, List.length_nil, growR_zero, growR_succ, List.length_cons]
        try rfl
      | cons y out =>
        have ho' : out.length ≤ 5 := by simpa using ho
        simp only [List.length_nil, List.map_nil, List.length_cons, growR_zero, growR_succ] at hi
        simp -implicitDefEqProofs (maxSteps := 1000000) (disch := omega) only [push_cast, ↓dstAt_zero, ↓dstAt_succ, ↓arun_skip, ↓arun_region, ↓arun_seq, ↓arun_cond, ↓arun_block, ↓arun_loop, ↓arun_exit, ↓arun_ret, aops_nil, aops_cons, aops_cons_guard, ↓putA_some, ↓putA_none, ↓aop_move, ↓aop_assign, ↓aop_pick, ↓aop_alloc, ↓aop_box, ↓aop_build, ↓aop_buildSlice, ↓aop_load, ↓aop_store, ↓aop_nilCheck, ↓aop_binOp, ↓aop_unOp, ↓aop_convert, ↓aop_makeSlice, ↓aop_fieldAddr, ↓aop_field, ↓aop_indexAddr, ↓aop_index, ↓aop_lookup, ↓aop_mapUpdate, ↓aop_insert, ↓aop_extract, ↓aop_callB, ↓aop_callF, ↓aop_callT, ↓aop_makeFunc, ↓aop_makeMap, ↓aop_slice, ↓aevs_nil, ↓aevs_cons, ↓evP_nil, ↓evP_cons, ↓aevO_none, ↓aevO_some, ↓reduceIte, reduceCtorEq, Nat.reduceEqDiff, Nat.reduceAdd, Nat.reduceLT, Nat.reduceSub, Nat.reduceMul, Nat.reduceLeDiff, if_true, if_false, if_pos, if_neg, st27, under_growR, hi, List.length_nil, growR_zero, growR_succ, List.length_cons]
        try rfl
    | cons x c' =>
      simp only [List.cons_ne_nil, if_false]
      have hl' : c'.length ≤ 6 := by simpa using hl
      cases out with
      | nil =>
        simp only [List.length_nil, List.map_nil, List.length_cons, growR_zero, growR_succ] at hi
        simp -implicitDefEqProofs (maxSteps := 1000000) (disch := omega) only [push_cast, ↓dstAt_zero, ↓dstAt_succ, ↓arun_skip, ↓arun_region, ↓arun_seq, ↓arun_cond, ↓arun_block, ↓arun_loop, ↓arun_exit, ↓arun_ret, aops_nil, aops_cons, aops_cons_guard, ↓putA_some, ↓putA_none, ↓aop_move, ↓aop_assign, ↓aop_pick, ↓aop_alloc, ↓aop_box, ↓aop_build, ↓aop_buildSlice, ↓aop_load, ↓aop_store, ↓aop_nilCheck, ↓aop_binOp, ↓aop_unOp, ↓aop_convert, ↓aop_makeSlice, ↓aop_fieldAddr, ↓aop_field, ↓aop_indexAddr, ↓aop_index, ↓aop_lookup, ↓aop_mapUpdate, ↓aop_insert, ↓aop_extract, ↓aop_callB, ↓aop_callF, ↓aop_callT, ↓aop_makeFunc, ↓aop_makeMap, ↓aop_slice, ↓aevs_nil, ↓aevs_cons, ↓evP_nil, ↓evP_cons, ↓aevO_none, ↓aevO_some, ↓reduceIte, reduceCtorEq, Nat.reduceEqDiff, Nat.reduceAdd, Nat.reduceLT, Nat.reduceSub, Nat.reduceMul, Nat.reduceLeDiff, if_true, if_false, if_pos, if_neg, st27, under_growR, hi, List.length_nil, growR_zero, growR_succ, List.length_cons]
        simp only [take_map_cons, List.take_length, underL_app, underL_Is, underL_cons, underL_nil, under_sl, Bool.and_self, if_true, obind_some]
        simp only [List.map_cons, List.map_append, List.map_nil, Is, List.length_cons, List.cons_append, List.length_append, List.length_nil, Nat.zero_add, Nat.add_assoc]
        try rfl
      | cons y out =>
        have ho' : out.length ≤ 5 := by simpa using ho
        simp only [List.length_nil, List.map_nil, List.length_cons, growR_zero, growR_succ] at hi
        simp -implicitDefEqProofs (maxSteps := 1000000) (disch := omega) only [push_cast, ↓dstAt_zero, ↓dstAt_succ, ↓arun_skip, ↓arun_region, ↓arun_seq, ↓arun_cond, ↓arun_block, ↓arun_loop, ↓arun_exit, ↓arun_ret, aops_nil, aops_cons, aops_cons_guard, ↓putA_some, ↓putA_none, ↓aop_move, ↓aop_assign, ↓aop_pick, ↓aop_alloc, ↓aop_box, ↓aop_build, ↓aop_buildSlice, ↓aop_load, ↓aop_store, ↓aop_nilCheck, ↓aop_binOp, ↓aop_unOp, ↓aop_convert, ↓aop_makeSlice, ↓aop_fieldAddr, ↓aop_field, ↓aop_indexAddr, ↓aop_index, ↓aop_lookup, ↓aop_mapUpdate, ↓aop_insert, ↓aop_extract, ↓aop_callB, ↓aop_callF, ↓aop_callT, ↓aop_makeFunc, ↓aop_makeMap, ↓aop_slice, ↓aevs_nil, ↓aevs_cons, ↓evP_nil, ↓evP_cons, ↓aevO_none, ↓aevO_some, ↓reduceIte, reduceCtorEq, Nat.reduceEqDiff, Nat.reduceAdd, Nat.reduceLT, Nat.reduceSub, Nat.reduceMul, Nat.reduceLeDiff, if_true, if_false, if_pos, if_neg, st27, under_growR, hi, List.length_nil, growR_zero, growR_succ, List.length_cons]
        simp only [take_map_cons, List.take_length, underL_app, underL_Is, underL_cons, underL_nil, under_sl, Bool.and_self, if_true, obind_some]
        simp only [List.map_cons, List.map_append, List.map_nil, Is, List.length_cons, List.cons_append, List.length_append, List.length_nil, Nat.zero_add, Nat.add_assoc]
        try rfl
end
theorem o27c {a : Code} (h : loopOf 0 Try.f27 = some a) {A : List Int} (hv : validL A = true) {out : List (List Int)} {bs : List Bool} (ho : out.length ≤ 6) : roundA Try.cfg 27 iter (call Try.cfg) 0 a (st27 A A.length out bs) = some (.exit 0, [(4, growR 1 out.length)], [.cells true 0 [], .cells true out.length (out.map Is), .cells true 0 (Bs bs)]) := by
  cases h
  have h6 := valid_len hv
  simp -implicitDefEqProofs (maxSteps := 1000000) (disch := omega) only [push_cast, ↓dstAt_zero, ↓dstAt_succ, ↓arun_skip, ↓arun_region, ↓arun_seq, ↓arun_cond, ↓arun_block, ↓arun_loop, ↓arun_exit, ↓arun_ret, aops_nil, aops_cons, aops_cons_guard, ↓putA_some, ↓putA_none, ↓aop_move, ↓aop_assign, ↓aop_pick, ↓aop_alloc, ↓aop_box, ↓aop_build, ↓aop_buildSlice, ↓aop_load, ↓aop_store, ↓aop_nilCheck, ↓aop_binOp, ↓aop_unOp, ↓aop_convert, ↓aop_makeSlice, ↓aop_fieldAddr, ↓aop_field, ↓aop_indexAddr, ↓aop_index, ↓aop_lookup, ↓aop_mapUpdate, ↓aop_insert, ↓aop_extract, ↓aop_callB, ↓aop_callF, ↓aop_callT, ↓aop_makeFunc, ↓aop_makeMap, ↓aop_slice, ↓aevs_nil, ↓aevs_cons, ↓evP_nil, ↓evP_cons, ↓aevO_none, ↓aevO_some, ↓reduceIte, reduceCtorEq, Nat.reduceEqDiff, Nat.reduceAdd, Nat.reduceLT, Nat.reduceSub, Nat.reduceMul, Nat.reduceLeDiff, if_true, if_false, if_pos, if_neg, st27]
theorem cyc_nil (A : List Int) (f : Nat) (bs : List Bool) (c : List Int) (k : Int) : c ≠ [] → (cyc A f bs c k).2 ≠ [] := by
  induction f generalizing bs c k with
  | zero => intro h; exact h
  | succ f ih =>
    intro h
    rw [cyc]
    split
    · exact h
    · exact ih _ _ _ (by simp)
theorem cycStep_eq (A : List Int) (i : Nat) (s : List (List Int) × List Bool) : cycStep A i s = ((if (cyc A 7 s.2 [] i).2 = [] then s.1 else s.1 ++ [(cyc A 7 s.2 [] i).2]), (cyc A 7 s.2 [] i).1) := by
  unfold cycStep
  cases hs : s.2.getD i false with
  | true =>
    have e : cyc A 7 s.2 [] i = (s.2, []) := by rw [cyc, Int.toNat_natCast, hs, if_pos rfl]
    simp [e]
  | false =>
    have e : (cyc A 7 s.2 [] i).2 ≠ [] := by
      rw [cyc, Int.toNat_natCast, hs, if_neg (by simp)]
      exact cyc_nil _ _ _ _ _ (by simp)
    simp [e]
theorem l27 {a : Code} (h : loopOf 0 Try.f27 = some a) {A : List Int} (hv : validL A = true) : iter (roundA Try.cfg 27 iter (call Try.cfg) 0 a) (st27 A 0 (cycAll A 0).1 (cycAll A 0).2) = some (.exit 0, [(4, growR 1 (cycAll A A.length).1.length)], [.cells true 0 [], .cells true (cycAll A A.length).1.length ((cycAll A A.length).1.map Is), .cells true 0 (Bs (cycAll A A.length).2)]) := by
  have h6 := valid_len hv
  refine iter_run (S := fun i => st27 A i (cycAll A i).1 (cycAll A i).2) (n := A.length) (fun i hi => ?_) (o27c h hv (by have := (cycAll_len A A.length).2; omega)) (by simp) A.length 0 (by omega)
  have hl := cycAll_len A i
  show _ = some (Ex.normal, st27 A (i + 1) (cycStep A i (cycAll A i)).1 (cycStep A i (cycAll A i)).2)
  rw [cycStep_eq]
  exact o27 h hv hl.1 (by omega) hi (count_le (by omega)) _ rfl (by have := cyc_len2 A 7 (cycAll A i).2 [] i; simpa using this)
theorem call27 {A : List Int} (hA : A.length ≤ 1000) : call Try.cfg 27 [Is A] [] = some (repL2 (cycL A), []) := by
  refine call_step ?_
  have v1 := call24u hA
  cases hv : validL A with
  | false =>
    rw [hv] at v1
    have e : cycL A = ([], 1) := by simp [cycL, hv]
    rw [e]
    simp -implicitDefEqProofs (maxSteps := 1000000) (disch := omega) only [stepA, bodyA, Try.cfgO, Try.sh27, Try.sh24, Try.func27, Try.f27, push_cast, ↓dstAt_zero, ↓dstAt_succ, ↓arun_skip, ↓arun_region, ↓arun_seq, ↓arun_cond, ↓arun_block, ↓arun_loop, ↓arun_exit, ↓arun_ret, aops_nil, aops_cons, aops_cons_guard, ↓putA_some, ↓putA_none, ↓aop_move, ↓aop_assign, ↓aop_pick, ↓aop_alloc, ↓aop_box, ↓aop_build, ↓aop_buildSlice, ↓aop_load, ↓aop_store, ↓aop_nilCheck, ↓aop_binOp, ↓aop_unOp, ↓aop_convert, ↓aop_makeSlice, ↓aop_fieldAddr, ↓aop_field, ↓aop_indexAddr, ↓aop_index, ↓aop_lookup, ↓aop_mapUpdate, ↓aop_insert, ↓aop_extract, ↓aop_callB, ↓aop_callF, ↓aop_callT, ↓aop_makeFunc, ↓aop_makeMap, ↓aop_slice, ↓aevs_nil, ↓aevs_cons, ↓evP_nil, ↓evP_cons, ↓aevO_none, ↓aevO_some, ↓reduceIte, reduceCtorEq, Nat.reduceEqDiff, Nat.reduceAdd, Nat.reduceLT, Nat.reduceSub, Nat.reduceMul, Nat.reduceLeDiff, if_true, if_false, if_pos, if_neg, v1, repL2, Iss]
    try rfl
  | true =>
    rw [hv] at v1
    have h6 := valid_len hv
    have e : cycL A = ((cycAll A A.length).1, 0) := by simp [cycL, hv]
    rw [e]
    cases hl : loopOf 0 Try.f27 with
    | none => cases hl
    | some a =>
      have hH := l27 hl hv
      cases hl
      have hlen := (cycAll_len A A.length).2
      have e0 : cycAll A 0 = ([], List.replicate A.length false) := rfl
      simp only [st27, Is, Bs, Int.natCast_zero, e0, List.length_nil, growR_zero, List.map_nil] at hH
      generalize cycAll A A.length = q at *
      obtain ⟨out, bs⟩ := q
      simp only at hH hlen ⊢
      cases out with
      | nil =>
        simp only [List.length_nil, growR_zero, List.map_nil] at hH
        simp -implicitDefEqProofs (maxSteps := 1000000) (disch := omega) only [stepA, bodyA, Try.cfgO, Try.sh27, Try.sh24, Try.func27, Try.f27, push_cast, ↓dstAt_zero, ↓dstAt_succ, ↓arun_skip, ↓arun_region, ↓arun_seq, ↓arun_cond, ↓arun_block, ↓arun_loop, ↓arun_exit, ↓arun_ret, aops_nil, aops_cons, aops_cons_guard, ↓putA_some, ↓putA_none, ↓aop_move, ↓aop_assign, ↓aop_pick, ↓aop_alloc, ↓aop_box, ↓aop_build, ↓aop_buildSlice, ↓aop_load, ↓aop_store, ↓aop_nilCheck, ↓aop_binOp, ↓aop_unOp, ↓aop_convert, ↓aop_makeSlice, ↓aop_fieldAddr, ↓aop_field, ↓aop_indexAddr, ↓aop_index, ↓aop_lookup, ↓aop_mapUpdate, ↓aop_insert, ↓aop_extract, ↓aop_callB, ↓aop_callF, ↓aop_callT, ↓aop_makeFunc, ↓aop_makeMap, ↓aop_slice, ↓aevs_nil, ↓aevs_cons, ↓evP_nil, ↓evP_cons, ↓aevO_none, ↓aevO_some, ↓reduceIte, reduceCtorEq, Nat.reduceEqDiff, Nat.reduceAdd, Nat.reduceLT, Nat.reduceSub, Nat.reduceMul, Nat.reduceLeDiff, if_true, if_false, if_pos, if_neg, v1, hH, repL2, Iss]
        try rfl
      | cons y out =>
        have hlen' : out.length < 6 := by simp at hlen; omega
        simp only [List.length_cons, growR_succ] at hH
        simp -implicitDefEqProofs (maxSteps := 1000000) (disch := omega) only [stepA, bodyA, Try.cfgO, Try.sh27, Try.sh24, Try.func27, Try.f27, push_cast, ↓dstAt_zero, ↓dstAt_succ, ↓arun_skip, ↓arun_region, ↓arun_seq, ↓arun_cond, ↓arun_block, ↓arun_loop, ↓arun_exit, ↓arun_ret, aops_nil, aops_cons, aops_cons_guard, ↓putA_some, ↓putA_none, ↓aop_move, ↓aop_assign, ↓aop_pick, ↓aop_alloc, ↓aop_box, ↓aop_build, ↓aop_buildSlice, ↓aop_load, ↓aop_store, ↓aop_nilCheck, ↓aop_binOp, ↓aop_unOp, ↓aop_convert, ↓aop_makeSlice, ↓aop_fieldAddr, ↓aop_field, ↓aop_indexAddr, ↓aop_index, ↓aop_lookup, ↓aop_mapUpdate, ↓aop_insert, ↓aop_extract, ↓aop_callB, ↓aop_callF, ↓aop_callT, ↓aop_makeFunc, ↓aop_makeMap, ↓aop_slice, ↓aevs_nil, ↓aevs_cons, ↓evP_nil, ↓evP_cons, ↓aevO_none, ↓aevO_some, ↓reduceIte, reduceCtorEq, Nat.reduceEqDiff, Nat.reduceAdd, Nat.reduceLT, Nat.reduceSub, Nat.reduceMul, Nat.reduceLeDiff, if_true, if_false, if_pos, if_neg, v1, hH, repL2, Iss, take_map_cons]
        try rfl
end Go.Proofs

/- ref.Order. -/
set_option linter.unusedVariables false
set_option linter.unusedSimpArgs false
set_option linter.unusedSectionVars false
namespace Go.Proofs
open Go.AI
set_option maxRecDepth 20000
section
variable {a : Code} (h : loopOf 0 Try.f25 = some a) {A : List Int} (hv : validL A = true)
include h hv
def st25 (A : List Int) (j : Nat) : St := ([(0, Is A), (4, I ((j : Int) + 1)), (5, Is (powP A j))], [])
theorem r25a {j : Nat} (hj : j ≤ 6) (hne : decide (powP A j = idP A.length) = false) : roundA Try.cfg 25 iter (call Try.cfg) 0 a (st25 A j) = some (.normal, st25 A (j + 1)) := by
  cases h
  have h6 := valid_len hv
  have hl := powP_length A j
  have hi := idP_length A.length
  have h38 := call38u (n := A.length) (by omega)
  have h37 := call37u (A := powP A j) (C := idP A.length) (by omega) (by omega)
  rw [hne, hi] at h37
  have h33 := call41u (A := A) (C := powP A j) h6 hl (powP_range hv j)
  have hm := mulP_length A (powP A j)
  have hs : st25 A (j + 1) = ([(0, Is A), (4, I (((j + 1 : Nat) : Int) + 1)), (5, Is (mulP A (powP A j)))], []) := rfl
  rw [hs]
  simp -implicitDefEqProofs (maxSteps := 1000000) (disch := omega) only [push_cast, ↓dstAt_zero, ↓dstAt_succ, ↓arun_skip, ↓arun_region, ↓arun_seq, ↓arun_cond, ↓arun_block, ↓arun_loop, ↓arun_exit, ↓arun_ret, aops_nil, aops_cons, aops_cons_guard, ↓putA_some, ↓putA_none, ↓aop_move, ↓aop_assign, ↓aop_pick, ↓aop_alloc, ↓aop_box, ↓aop_build, ↓aop_buildSlice, ↓aop_load, ↓aop_store, ↓aop_nilCheck, ↓aop_binOp, ↓aop_unOp, ↓aop_convert, ↓aop_makeSlice, ↓aop_fieldAddr, ↓aop_field, ↓aop_indexAddr, ↓aop_index, ↓aop_lookup, ↓aop_mapUpdate, ↓aop_insert, ↓aop_extract, ↓aop_callB, ↓aop_callF, ↓aop_callT, ↓aop_makeFunc, ↓aop_makeMap, ↓aop_slice, ↓aevs_nil, ↓aevs_cons, ↓evP_nil, ↓evP_cons, ↓aevO_none, ↓aevO_some, ↓reduceIte, reduceCtorEq, Nat.reduceEqDiff, Nat.reduceAdd, Nat.reduceLT, Nat.reduceSub, Nat.reduceMul, Nat.reduceLeDiff, if_true, if_false, if_pos, if_neg, Try.sh37, Try.sh41, Try.sh38, st25, h38, h37, h33, hm]
  try rfl
theorem r25b {j : Nat} (hj : j ≤ 6) (hne : decide (powP A j = idP A.length) = true) : roundA Try.cfg 25 iter (call Try.cfg) 0 a (st25 A j) = some (.exit 0, [(4, I ((j : Int) + 1))], []) := by
  cases h
  have h6 := valid_len hv
  have hl := powP_length A j
  have hi := idP_length A.length
  have h38 := call38u (n := A.length) (by omega)
  have h37 := call37u (A := powP A j) (C := idP A.length) (by omega) (by omega)
  rw [hne, hi] at h37
  simp -implicitDefEqProofs (maxSteps := 1000000) (disch := omega) only [push_cast, ↓dstAt_zero, ↓dstAt_succ, ↓arun_skip, ↓arun_region, ↓arun_seq, ↓arun_cond, ↓arun_block, ↓arun_loop, ↓arun_exit, ↓arun_ret, aops_nil, aops_cons, aops_cons_guard, ↓putA_some, ↓putA_none, ↓aop_move, ↓aop_assign, ↓aop_pick, ↓aop_alloc, ↓aop_box, ↓aop_build, ↓aop_buildSlice, ↓aop_load, ↓aop_store, ↓aop_nilCheck, ↓aop_binOp, ↓aop_unOp, ↓aop_convert, ↓aop_makeSlice, ↓aop_fieldAddr, ↓aop_field, ↓aop_indexAddr, ↓aop_index, ↓aop_lookup, ↓aop_mapUpdate, ↓aop_insert, ↓aop_extract, ↓aop_callB, ↓aop_callF, ↓aop_callT, ↓aop_makeFunc, ↓aop_makeMap, ↓aop_slice, ↓aevs_nil, ↓aevs_cons, ↓evP_nil, ↓evP_cons, ↓aevO_none, ↓aevO_some, ↓reduceIte, reduceCtorEq, Nat.reduceEqDiff, Nat.reduceAdd, Nat.reduceLT, Nat.reduceSub, Nat.reduceMul, Nat.reduceLeDiff, if_true, if_false, if_pos, if_neg, Try.sh37, Try.sh41, Try.sh38, st25, h38, h37]
theorem l25 : ∀ k j, j + k = 6 → (∃ m, j ≤ m ∧ m < 6 ∧ powP A m = idP A.length) → iter (roundA Try.cfg 25 iter (call Try.cfg) 0 a) (st25 A j) = some (.exit 0, [(4, I ((ordF A k j : Int) + 1))], [])
  | 0, j, hj, ⟨m, h1, h2, h3⟩ => by omega
  | k + 1, j, hj, ⟨m, h1, h2, h3⟩ => by
    by_cases he : powP A j = idP A.length
    · rw [ordF, if_pos he]
      exact iter_last (r25b h hv (by omega) (decide_eq_true he)) (by simp)
    · rw [ordF, if_neg he]
      have : j ≠ m := fun e => he (by rw [e]; exact h3)
      exact iter_normal (r25a h hv (by omega) (decide_eq_false he)) (l25 k (j + 1) (by omega) ⟨m, by omega, h2, h3⟩)
end
theorem call25 {A : List Int} (hA : A.length ≤ 1000) : call Try.cfg 25 [Is A] [] = some (.tu [I (ordL A).1, I (ordL A).2], []) := by
  refine call_step ?_
  have v1 := call24u hA
  cases hv : validL A with
  | false =>
    rw [hv] at v1
    have e : ordL A = (0, 1) := by simp [ordL, hv]
    rw [e]
    simp -implicitDefEqProofs (maxSteps := 1000000) (disch := omega) only [stepA, bodyA, Try.cfgO, Try.sh25, Try.sh24, Try.func25, Try.f25, push_cast, ↓dstAt_zero, ↓dstAt_succ, ↓arun_skip, ↓arun_region, ↓arun_seq, ↓arun_cond, ↓arun_block, ↓arun_loop, ↓arun_exit, ↓arun_ret, aops_nil, aops_cons, aops_cons_guard, ↓putA_some, ↓putA_none, ↓aop_move, ↓aop_assign, ↓aop_pick, ↓aop_alloc, ↓aop_box, ↓aop_build, ↓aop_buildSlice, ↓aop_load, ↓aop_store, ↓aop_nilCheck, ↓aop_binOp, ↓aop_unOp, ↓aop_convert, ↓aop_makeSlice, ↓aop_fieldAddr, ↓aop_field, ↓aop_indexAddr, ↓aop_index, ↓aop_lookup, ↓aop_mapUpdate, ↓aop_insert, ↓aop_extract, ↓aop_callB, ↓aop_callF, ↓aop_callT, ↓aop_makeFunc, ↓aop_makeMap, ↓aop_slice, ↓aevs_nil, ↓aevs_cons, ↓evP_nil, ↓evP_cons, ↓aevO_none, ↓aevO_some, ↓reduceIte, reduceCtorEq, Nat.reduceEqDiff, Nat.reduceAdd, Nat.reduceLT, Nat.reduceSub, Nat.reduceMul, Nat.reduceLeDiff, if_true, if_false, if_pos, if_neg, v1]
    try rfl
  | true =>
    rw [hv] at v1
    have h6 := valid_len hv
    have e : ordL A = ((ordF A 6 0 : Int) + 1, 0) := by simp [ordL, hv]
    rw [e]
    have hu := call38u (n := A.length) (by omega)
    have hi := idP_length A.length
    cases hl : loopOf 0 Try.f25 with
    | none => cases hl
    | some a =>
      have hH := l25 hl hv 6 0 rfl (by
        have := valid_all ord_all hv
        simp only [ordOk, List.any_eq_true, List.mem_range, decide_eq_true_eq] at this
        obtain ⟨m, h1, h2⟩ := this
        exact ⟨m, by omega, h1, h2⟩)
      cases hl
      have e0 : powP A 0 = A := rfl
      simp only [st25, Is, Int.natCast_zero, e0, hi, Int.zero_add] at hH
      simp -implicitDefEqProofs (maxSteps := 1000000) (disch := omega) only [stepA, bodyA, Try.cfgO, Try.sh25, Try.sh24, Try.sh38, Try.func25, Try.f25, push_cast, ↓dstAt_zero, ↓dstAt_succ, ↓arun_skip, ↓arun_region, ↓arun_seq, ↓arun_cond, ↓arun_block, ↓arun_loop, ↓arun_exit, ↓arun_ret, aops_nil, aops_cons, aops_cons_guard, ↓putA_some, ↓putA_none, ↓aop_move, ↓aop_assign, ↓aop_pick, ↓aop_alloc, ↓aop_box, ↓aop_build, ↓aop_buildSlice, ↓aop_load, ↓aop_store, ↓aop_nilCheck, ↓aop_binOp, ↓aop_unOp, ↓aop_convert, ↓aop_makeSlice, ↓aop_fieldAddr, ↓aop_field, ↓aop_indexAddr, ↓aop_index, ↓aop_lookup, ↓aop_mapUpdate, ↓aop_insert, ↓aop_extract, ↓aop_callB, ↓aop_callF, ↓aop_callT, ↓aop_makeFunc, ↓aop_makeMap, ↓aop_slice, ↓aevs_nil, ↓aevs_cons, ↓evP_nil, ↓evP_cons, ↓aevO_none, ↓aevO_some, ↓reduceIte, reduceCtorEq, Nat.reduceEqDiff, Nat.reduceAdd, Nat.reduceLT, Nat.reduceSub, Nat.reduceMul, Nat.reduceLeDiff, if_true, if_false, if_pos, if_neg, v1, hu, hH]
      try rfl
end Go.Proofs
