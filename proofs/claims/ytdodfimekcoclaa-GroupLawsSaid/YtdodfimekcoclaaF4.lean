/- GroupLaws: the function answers true. -/
import Derived.Test.YtdodfimekcoclaaF25
import Derived.Test.YtdodfimekcoclaaF5
import Derived.Test.YtdodfimekcoclaaPPerm2
set_option linter.unusedVariables false
set_option linter.unusedSimpArgs false
set_option linter.unusedSectionVars false
namespace Go.Proofs
open Go.AI
set_option maxRecDepth 20000
set_option maxHeartbeats 4000000
/-- The powers. -/
def pw (A : List Int) : Nat → List Int
  | 0 => idP A.length
  | t + 1 => powP A t
def lawOk (A : List Int) : Bool :=
  decide (ordF A 6 0 + 1 ≤ 6) && ((List.range 6).all fun t => decide (ordF A 6 0 ≤ t) || !decide (powP A t = idP A.length)) && decide (powP A (ordF A 6 0) = idP A.length) && decide (mulP A (idP A.length) = A) &&
  validL (invS A A.length) && decide (mulP A (invS A A.length) = idP A.length) && ((List.range 7).all fun t => validL (pw A t))
theorem law_all : ((List.range 7).all fun n => (enumL n n six).all lawOk) = true := by kernel_rfl
structure LawOk (A : List Int) : Prop where
  le : ordF A 6 0 + 1 ≤ 6
  ne : ∀ t, t < ordF A 6 0 → powP A t ≠ idP A.length
  eq : powP A (ordF A 6 0) = idP A.length
  one : mulP A (idP A.length) = A
  iv : validL (invS A A.length) = true
  inv : mulP A (invS A A.length) = idP A.length
  pv : ∀ t, t < 7 → validL (pw A t) = true
theorem law_ok {A : List Int} (hv : validL A = true) : LawOk A := by
  have h := valid_all law_all hv
  simp only [lawOk, Bool.and_eq_true, decide_eq_true_eq, List.all_eq_true, List.mem_range, Bool.or_eq_true, Bool.not_eq_true', decide_eq_false_iff_not] at h
  obtain ⟨⟨⟨⟨⟨⟨h1, h2⟩, h3⟩, h4⟩, h5⟩, h6⟩, h7⟩ := h
  exact ⟨h1, fun t ht => (h2 t (by omega)).resolve_left (by omega), h3, h4, h5, h6, h7⟩
theorem comp_ok {A C : List Int} (hA : validL A = true) (hC : validL C = true) (hl : A.length = C.length) : compL A C = (mulP A C, 0) := by simp [compL, hA, hC, hl]
theorem inv_ok {A : List Int} (hA : validL A = true) : invL A = (invS A A.length, 0) := by simp [invL, hA]
theorem ord_ok {A : List Int} (hA : validL A = true) : ordL A = ((ordF A 6 0 : Int) + 1, 0) := by simp [ordL, hA]
theorem pw_len (A : List Int) : ∀ t, (pw A t).length = A.length
  | 0 => idP_length _
  | t + 1 => powP_length A t
theorem pw_succ {A : List Int} (h : LawOk A) : ∀ t, mulP A (pw A t) = pw A (t + 1)
  | 0 => h.one
  | t + 1 => rfl
theorem call17c {A C : List Int} (hA : validL A = true) (hC : validL C = true) (hl : A.length = C.length) : call Try.cfg 17 [.sl false A.length (A.map I), .sl false C.length (C.map I)] [] = some (.tu [.sl false (mulP A C).length ((mulP A C).map I), .v (.int .i64 0)], []) := by
  have := call17 (A := A) (C := C) (by have := valid_len hA; omega) (by have := valid_len hC; omega)
  rw [comp_ok hA hC hl] at this
  exact this
theorem call20d {A C : List Int} (hA : A.length ≤ 6) (hC : C.length ≤ 6) : call Try.cfg 20 [.sl false A.length (A.map I), .sl false C.length (C.map I)] [] = some (.v (.bool (decide (A = C))), []) := call20 (by omega) (by omega)
section
variable {a : Code} (h : loopOf 0 Try.f4 = some a) {A : List Int} (hv : validL A = true)
include h hv
def st4 (A : List Int) (t : Nat) : St := ([(0, Is A), (3, I A.length), (19, Is (idP A.length)), (21, I ((ordF A 6 0 : Int) + 1)), (23, Is (pw A t)), (24, I t)], [])
theorem r4a {t : Nat} (ht : t < ordF A 6 0 + 1) : roundA Try.cfg 4 iter (call Try.cfg) 0 a (st4 A t) = some (.normal, st4 A (t + 1)) := by
  cases h
  have h6 := valid_len hv
  have hk := law_ok hv
  have hle := hk.le
  have hp := pw_len A t
  have hi := idP_length A.length
  have hc := call17c hv (hk.pv t (by omega)) (by omega)
  have hd := call20d (A := pw A t) (C := idP A.length) (by omega) (by omega)
  rw [pw_succ hk] at hc
  have hp' := pw_len A (t + 1)
  simp only [hp, hi, hp'] at hc hd
  by_cases h0 : 0 < t
  · have hne : decide (pw A t = idP A.length) = false := by
      obtain ⟨s, rfl⟩ : ∃ s, t = s + 1 := ⟨t - 1, by omega⟩
      exact decide_eq_false (hk.ne s (by omega))
    rw [hne] at hd
    simp -implicitDefEqProofs (maxSteps := 1000000) (disch := omega) only [push_cast, ↓dstAt_zero, ↓dstAt_succ, ↓arun_skip, ↓arun_region, ↓arun_seq, ↓arun_cond, ↓arun_block, ↓arun_loop, ↓arun_exit, ↓arun_ret, aops_nil, aops_cons, aops_cons_guard, ↓putA_some, ↓putA_none, ↓aop_move, ↓aop_assign, ↓aop_pick, ↓aop_alloc, ↓aop_box, ↓aop_build, ↓aop_buildSlice, ↓aop_load, ↓aop_store, ↓aop_nilCheck, ↓aop_binOp, ↓aop_unOp, ↓aop_convert, ↓aop_makeSlice, ↓aop_fieldAddr, ↓aop_field, ↓aop_indexAddr, ↓aop_index, ↓aop_lookup, ↓aop_mapUpdate, ↓aop_insert, ↓aop_extract, ↓aop_callB, ↓aop_callF, ↓aop_callT, ↓aop_makeFunc, ↓aop_makeMap, ↓aop_slice, ↓aevs_nil, ↓aevs_cons, ↓evP_nil, ↓evP_cons, ↓aevO_none, ↓aevO_some, ↓reduceIte, reduceCtorEq, Nat.reduceEqDiff, Nat.reduceAdd, Nat.reduceLT, Nat.reduceSub, Nat.reduceMul, Nat.reduceLeDiff, if_true, if_false, if_pos, if_neg, Try.sh17, Try.sh20, st4, hc, hd, hp, hi, hp', ne_eq, not_true_eq_false]
    try rfl
  · simp -implicitDefEqProofs (maxSteps := 1000000) (disch := omega) only [push_cast, ↓dstAt_zero, ↓dstAt_succ, ↓arun_skip, ↓arun_region, ↓arun_seq, ↓arun_cond, ↓arun_block, ↓arun_loop, ↓arun_exit, ↓arun_ret, aops_nil, aops_cons, aops_cons_guard, ↓putA_some, ↓putA_none, ↓aop_move, ↓aop_assign, ↓aop_pick, ↓aop_alloc, ↓aop_box, ↓aop_build, ↓aop_buildSlice, ↓aop_load, ↓aop_store, ↓aop_nilCheck, ↓aop_binOp, ↓aop_unOp, ↓aop_convert, ↓aop_makeSlice, ↓aop_fieldAddr, ↓aop_field, ↓aop_indexAddr, ↓aop_index, ↓aop_lookup, ↓aop_mapUpdate, ↓aop_insert, ↓aop_extract, ↓aop_callB, ↓aop_callF, ↓aop_callT, ↓aop_makeFunc, ↓aop_makeMap, ↓aop_slice, ↓aevs_nil, ↓aevs_cons, ↓evP_nil, ↓evP_cons, ↓aevO_none, ↓aevO_some, ↓reduceIte, reduceCtorEq, Nat.reduceEqDiff, Nat.reduceAdd, Nat.reduceLT, Nat.reduceSub, Nat.reduceMul, Nat.reduceLeDiff, if_true, if_false, if_pos, if_neg, Try.sh17, Try.sh20, st4, hc, hp, hi, hp', ne_eq, not_true_eq_false]
    try rfl
theorem r4b : roundA Try.cfg 4 iter (call Try.cfg) 0 a (st4 A (ordF A 6 0 + 1)) = some (.exit 0, [(3, I A.length), (19, Is (idP A.length)), (23, Is (pw A (ordF A 6 0 + 1)))], []) := by
  cases h
  have h6 := valid_len hv
  have hle := (law_ok hv).le
  simp -implicitDefEqProofs (maxSteps := 1000000) (disch := omega) only [push_cast, ↓dstAt_zero, ↓dstAt_succ, ↓arun_skip, ↓arun_region, ↓arun_seq, ↓arun_cond, ↓arun_block, ↓arun_loop, ↓arun_exit, ↓arun_ret, aops_nil, aops_cons, aops_cons_guard, ↓putA_some, ↓putA_none, ↓aop_move, ↓aop_assign, ↓aop_pick, ↓aop_alloc, ↓aop_box, ↓aop_build, ↓aop_buildSlice, ↓aop_load, ↓aop_store, ↓aop_nilCheck, ↓aop_binOp, ↓aop_unOp, ↓aop_convert, ↓aop_makeSlice, ↓aop_fieldAddr, ↓aop_field, ↓aop_indexAddr, ↓aop_index, ↓aop_lookup, ↓aop_mapUpdate, ↓aop_insert, ↓aop_extract, ↓aop_callB, ↓aop_callF, ↓aop_callT, ↓aop_makeFunc, ↓aop_makeMap, ↓aop_slice, ↓aevs_nil, ↓aevs_cons, ↓evP_nil, ↓evP_cons, ↓aevO_none, ↓aevO_some, ↓reduceIte, reduceCtorEq, Nat.reduceEqDiff, Nat.reduceAdd, Nat.reduceLT, Nat.reduceSub, Nat.reduceMul, Nat.reduceLeDiff, if_true, if_false, if_pos, if_neg, st4, Int.natCast_add, Int.natCast_one, Int.lt_irrefl]
end
section
variable {a : Code} (h : loopOf 2 Try.f4 = some a) {n : Nat} (hn : n ≤ 6) {p : List Int} (hp : p.length = n)
include h hn hp
def st4' (n : Nat) (p : List Int) (t : Nat) : St := ([(3, I n), (19, Is (idP n)), (23, Is p), (25, I t)], [])
theorem r4c {t : Nat} (ht : t < n) : roundA Try.cfg 4 iter (call Try.cfg) 2 a (st4' n p t) = some (.normal, st4' n p (t + 1)) := by
  cases h
  have hi := idP_length n
  have hx : (idP n)[t]? = some (t : Int) := by simp [idP, ht]
  simp -implicitDefEqProofs (maxSteps := 1000000) (disch := omega) only [push_cast, ↓dstAt_zero, ↓dstAt_succ, ↓arun_skip, ↓arun_region, ↓arun_seq, ↓arun_cond, ↓arun_block, ↓arun_loop, ↓arun_exit, ↓arun_ret, aops_nil, aops_cons, aops_cons_guard, ↓putA_some, ↓putA_none, ↓aop_move, ↓aop_assign, ↓aop_pick, ↓aop_alloc, ↓aop_box, ↓aop_build, ↓aop_buildSlice, ↓aop_load, ↓aop_store, ↓aop_nilCheck, ↓aop_binOp, ↓aop_unOp, ↓aop_convert, ↓aop_makeSlice, ↓aop_fieldAddr, ↓aop_field, ↓aop_indexAddr, ↓aop_index, ↓aop_lookup, ↓aop_mapUpdate, ↓aop_insert, ↓aop_extract, ↓aop_callB, ↓aop_callF, ↓aop_callT, ↓aop_makeFunc, ↓aop_makeMap, ↓aop_slice, ↓aevs_nil, ↓aevs_cons, ↓evP_nil, ↓evP_cons, ↓aevO_none, ↓aevO_some, ↓reduceIte, reduceCtorEq, Nat.reduceEqDiff, Nat.reduceAdd, Nat.reduceLT, Nat.reduceSub, Nat.reduceMul, Nat.reduceLeDiff, if_true, if_false, if_pos, if_neg, st4', hi, hx, ne_eq, not_true_eq_false]
  try rfl
theorem r4d : roundA Try.cfg 4 iter (call Try.cfg) 2 a (st4' n p n) = some (.exit 2, [(19, Is (idP n)), (23, Is p)], []) := by
  cases h
  simp -implicitDefEqProofs (maxSteps := 1000000) (disch := omega) only [push_cast, ↓dstAt_zero, ↓dstAt_succ, ↓arun_skip, ↓arun_region, ↓arun_seq, ↓arun_cond, ↓arun_block, ↓arun_loop, ↓arun_exit, ↓arun_ret, aops_nil, aops_cons, aops_cons_guard, ↓putA_some, ↓putA_none, ↓aop_move, ↓aop_assign, ↓aop_pick, ↓aop_alloc, ↓aop_box, ↓aop_build, ↓aop_buildSlice, ↓aop_load, ↓aop_store, ↓aop_nilCheck, ↓aop_binOp, ↓aop_unOp, ↓aop_convert, ↓aop_makeSlice, ↓aop_fieldAddr, ↓aop_field, ↓aop_indexAddr, ↓aop_index, ↓aop_lookup, ↓aop_mapUpdate, ↓aop_insert, ↓aop_extract, ↓aop_callB, ↓aop_callF, ↓aop_callT, ↓aop_makeFunc, ↓aop_makeMap, ↓aop_slice, ↓aevs_nil, ↓aevs_cons, ↓evP_nil, ↓evP_cons, ↓aevO_none, ↓aevO_some, ↓reduceIte, reduceCtorEq, Nat.reduceEqDiff, Nat.reduceAdd, Nat.reduceLT, Nat.reduceSub, Nat.reduceMul, Nat.reduceLeDiff, if_true, if_false, if_pos, if_neg, st4', Int.lt_irrefl]
end
theorem body4 {A C D X : List Int} (hA : validL A = true) (hC : validL C = true) (hD : validL D = true) (hl : A.length = C.length) (hl' : C.length = D.length) {U V W : List Int} {n : Int}
    (h14 : call Try.cfg 14 [.sl false 3 [.sl false U.length (U.map I), .sl false V.length (V.map I), .sl false W.length (W.map I)]] [] = some (.v (.bool true), []))
    (h15 : call Try.cfg 15 [.v (.int .i64 n), .v (.int .i64 7)] [] = some (.v (.int .i64 A.length), []))
    (hU : call Try.cfg 16 [.sl false U.length (U.map I), .v (.int .i64 A.length)] [] = some (.sl false A.length (A.map I), []))
    (hV : call Try.cfg 16 [.sl false V.length (V.map I), .v (.int .i64 A.length)] [] = some (.sl false C.length (C.map I), []))
    (hW : call Try.cfg 16 [.sl false W.length (W.map I), .v (.int .i64 A.length)] [] = some (.sl false D.length (D.map I), [])) :
    call Try.cfg 4 [Is U, Is V, Is W, I n] [] = some (.v (.bool true), []) := by
  refine call_step ?_
  have h8 := call8
  have h6 := valid_len hA
  have hk := law_ok hA
  have c1 := call17c hA hC hl
  have c2 := call17c hC hD hl'
  have v1 := mulP_valid hA hC hl
  have v2 := mulP_valid hC hD hl'
  have k1 := mulP_length A C
  have k2 := mulP_length C D
  have c3 := call17c v1 hD (by rw [mulP_length]; omega)
  have c4 := call17c hA v2 (by rw [mulP_length]; omega)
  rw [mulP_assoc hl hl' hD] at c3
  have c5 := call18 (A := A) (by omega)
  rw [inv_ok hA] at c5
  have hil := invS_length A A.length
  have c6 := call17c hA hk.iv hil.symm
  rw [hk.inv] at c6
  have c7 := call19 (A := A) (by omega)
  rw [ord_ok hA] at c7
  have hid := idP_length A.length
  have k3 := mulP_length A (mulP C D)
  have c8 := ints_self (A := mulP A (mulP C D)) (by omega)
  have hle := hk.le
  simp only [rep2, Is] at c5 c7
  cases hl0 : loopOf 0 Try.f4 with
  | none => cases hl0
  | some a0 =>
    cases hl2 : loopOf 2 Try.f4 with
    | none => cases hl2
    | some a2 =>
      have hH0 := iter_run (S := fun t => st4 A t) (fun t ht => r4a hl0 hA ht) (r4b hl0 hA) (by simp) (ordF A 6 0 + 1) 0 (by omega)
      have e0 : pw A (ordF A 6 0 + 1) = idP A.length := hk.eq
      rw [e0] at hH0
      have hH2 := iter_run (S := fun t => st4' A.length (idP A.length) t) (fun t ht => r4c hl2 h6 hid ht) (r4d hl2 h6 hid) (by simp) A.length 0 (by omega)
      cases hl0
      cases hl2
      have e1 : pw A 0 = idP A.length := rfl
      have c9 := ints_self (A := idP A.length) (by omega)
      simp only [st4, Is, Int.natCast_zero, e1] at hH0
      simp only [st4', Is, Int.natCast_zero] at hH2
      generalize mulP A (mulP C D) = x1 at *
      generalize mulP A C = x2 at *
      generalize mulP C D = x3 at *
      generalize invS A A.length = x4 at *
      simp -implicitDefEqProofs (maxSteps := 1000000) (disch := omega) only [stepA, bodyA, Try.cfgO, Try.sh4, Try.sh14, Try.sh8, Try.sh15, Try.sh16, Try.sh17, Try.sh18, Try.sh20, Try.sh19, Try.func4, Try.f4, push_cast, ↓dstAt_zero, ↓dstAt_succ, ↓arun_skip, ↓arun_region, ↓arun_seq, ↓arun_cond, ↓arun_block, ↓arun_loop, ↓arun_exit, ↓arun_ret, aops_nil, aops_cons, aops_cons_guard, ↓putA_some, ↓putA_none, ↓aop_move, ↓aop_assign, ↓aop_pick, ↓aop_alloc, ↓aop_box, ↓aop_build, ↓aop_buildSlice, ↓aop_load, ↓aop_store, ↓aop_nilCheck, ↓aop_binOp, ↓aop_unOp, ↓aop_convert, ↓aop_makeSlice, ↓aop_fieldAddr, ↓aop_field, ↓aop_indexAddr, ↓aop_index, ↓aop_lookup, ↓aop_mapUpdate, ↓aop_insert, ↓aop_extract, ↓aop_callB, ↓aop_callF, ↓aop_callT, ↓aop_makeFunc, ↓aop_makeMap, ↓aop_slice, ↓aevs_nil, ↓aevs_cons, ↓evP_nil, ↓evP_cons, ↓aevO_none, ↓aevO_some, ↓reduceIte, reduceCtorEq, Nat.reduceEqDiff, Nat.reduceAdd, Nat.reduceLT, Nat.reduceSub, Nat.reduceMul, Nat.reduceLeDiff, if_true, if_false, if_pos, if_neg, h14, h15, hU, hV, hW, h8, c1, c2, c3, c4, c5, c6, c7, c8, c9, hH0, hH2, ne_eq, not_true_eq_false]
section
variable {A C D : List Int} {n : Int} (hrA : ∀ x ∈ A, i64 x) (hrC : ∀ x ∈ C, i64 x) (hrD : ∀ x ∈ D, i64 x) (hn : i64 n)
include hrA hrC hrD hn
theorem call4 : call Try.cfg 4 [Is A, Is C, Is D, I n] [] = some (.v (.bool true), []) := by
  have h14 := call14 (L := [A, C, D]) (by simp)
  simp only [List.map_cons, List.map_nil, List.length_cons, List.length_nil, Is, Nat.zero_add] at h14
  have h8 := call8
  by_cases hf : fewL [A, C, D] = true
  · rw [hf] at h14
    have hl : A.length ≤ 20 ∧ C.length ≤ 20 ∧ D.length ≤ 20 := by
      have e : fewL [A, C, D] = (decide (A.length ≤ 20) && (decide (C.length ≤ 20) && (decide (D.length ≤ 20) && true))) := rfl
      rw [e] at hf
      simpa using hf
    have hm1 := Int.emod_nonneg n (show (7 : Int) ≠ 0 by omega)
    have hm2 := Int.emod_lt_of_pos n (show (0 : Int) < 7 by omega)
    obtain ⟨m, hm⟩ : ∃ m : Nat, n % 7 = m := ⟨(n % 7).toNat, by omega⟩
    have h15 := call15u (n := n) (m := 7) (by omega) (by omega) hn.1 hn.2
    rw [hm] at h15
    have hm6 : m ≤ 6 := by omega
    have l1 := permS_length A m
    have l2 := permS_length C m
    have l3 := permS_length D m
    refine body4 (X := []) (permS_valid A hm6) (permS_valid C hm6) (permS_valid D hm6) (by omega) (by omega) h14 (by rw [l1]; exact h15) ?_ ?_ ?_
    · have := call16 (A := A) (n := m) (by omega) hm6 hrA
      simpa only [Is, l1] using this
    · have := call16 (A := C) (n := m) (by omega) hm6 hrC
      simpa only [Is, l1, l2] using this
    · have := call16 (A := D) (n := m) (by omega) hm6 hrD
      simpa only [Is, l1, l3] using this
  · refine call_step ?_
    have hf' : fewL [A, C, D] = false := by simpa using hf
    rw [hf'] at h14
    simp -implicitDefEqProofs (maxSteps := 1000000) (disch := omega) only [stepA, bodyA, Try.cfgO, Try.sh4, Try.sh14, Try.sh8, Try.func4, Try.f4, push_cast, ↓dstAt_zero, ↓dstAt_succ, ↓arun_skip, ↓arun_region, ↓arun_seq, ↓arun_cond, ↓arun_block, ↓arun_loop, ↓arun_exit, ↓arun_ret, aops_nil, aops_cons, aops_cons_guard, ↓putA_some, ↓putA_none, ↓aop_move, ↓aop_assign, ↓aop_pick, ↓aop_alloc, ↓aop_box, ↓aop_build, ↓aop_buildSlice, ↓aop_load, ↓aop_store, ↓aop_nilCheck, ↓aop_binOp, ↓aop_unOp, ↓aop_convert, ↓aop_makeSlice, ↓aop_fieldAddr, ↓aop_field, ↓aop_indexAddr, ↓aop_index, ↓aop_lookup, ↓aop_mapUpdate, ↓aop_insert, ↓aop_extract, ↓aop_callB, ↓aop_callF, ↓aop_callT, ↓aop_makeFunc, ↓aop_makeMap, ↓aop_slice, ↓aevs_nil, ↓aevs_cons, ↓evP_nil, ↓evP_cons, ↓aevO_none, ↓aevO_some, ↓reduceIte, reduceCtorEq, Nat.reduceEqDiff, Nat.reduceAdd, Nat.reduceLT, Nat.reduceSub, Nat.reduceMul, Nat.reduceLeDiff, if_true, if_false, if_pos, if_neg, h14, h8]
end
end Go.Proofs
