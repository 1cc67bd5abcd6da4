/- GroupPermutations: the function answers true. -/
import Derived.Test.YtdodfimekcoclaaF27
import Derived.Test.YtdodfimekcoclaaF25
import Derived.Test.YtdodfimekcoclaaF16
import Derived.Test.YtdodfimekcoclaaF13
import Derived.Test.YtdodfimekcoclaaAiLaw
set_option linter.unusedVariables false
set_option linter.unusedSimpArgs false
set_option linter.unusedSectionVars false
namespace Go.Proofs
open Go.AI
set_option maxRecDepth 20000
set_option maxHeartbeats 4000000
theorem call8 : call Try.cfg 8 [] [] = some (.v (.bool true), []) := call_run 20 (by kernel_rfl)
theorem permS_le {A : List Int} {n : Nat} (h : n ≤ 6) : (permS A n).length ≤ 1000 := by rw [permS_length]; omega
theorem compL_len (X Y : List Int) : (compL X Y).1.length ≤ X.length := by
  unfold compL
  split
  · split
    · simp [mulP]
    · simp
  · simp
theorem invL_len (X : List Int) : (invL X).1.length ≤ X.length := by
  unfold invL
  split
  · simp [invS_length]
  · simp
theorem cyc_mem_len (A : List Int) : ∀ i, ∀ x ∈ (cycAll A i).1, x.length ≤ 7
  | 0, x, hx => by simp [cycAll] at hx
  | i + 1, x, hx => by
    simp only [cycAll, cycStep] at hx
    split at hx
    · exact cyc_mem_len A i x hx
    · simp only [List.mem_append, List.mem_singleton] at hx
      rcases hx with hx | rfl
      · exact cyc_mem_len A i x hx
      · have := cyc_len2 A 7 (cycAll A i).2 [] i; simpa using this
theorem cycL_len (X : List Int) : (cycL X).1.length ≤ 6 ∧ ∀ x ∈ (cycL X).1, x.length ≤ 7 := by
  unfold cycL
  split
  · rename_i h
    have h6 := valid_len h
    exact ⟨Nat.le_trans (cycAll_len X X.length).2 h6, cyc_mem_len X _⟩
  · simp
theorem lists_self {A : List (List Int)} (hA : A.length ≤ 1000000) (hs : ∀ x ∈ A, x.length ≤ 1000000) : call Try.cfg 13 [.sl false A.length (A.map Is), .sl false A.length (A.map Is)] [] = some (.v (.bool true), []) := by
  have := call13 hA hA hs hs
  simpa using this
theorem ints_self {A : List Int} (hA : A.length ≤ 1000000) : call Try.cfg 20 [.sl false A.length (A.map I), .sl false A.length (A.map I)] [] = some (.v (.bool true), []) := by
  have := call20 hA hA
  simpa [Is] using this
section
variable {A C : List Int} {n : Int} {raw : Bool} (hA : A.length ≤ maxLen) (hC : C.length ≤ maxLen) (hrA : ∀ x ∈ A, i64 x) (hrC : ∀ x ∈ C, i64 x) (hn : i64 n)
include hA hC hrA hrC hn
theorem call5 : call Try.cfg 5 [Is A, Is C, I n, B raw] [] = some (.v (.bool true), []) := by
  refine call_step ?_
  have h14 := call14 (L := [A, C]) (by simp)
  have h8 := call8
  simp only [List.map_cons, List.map_nil, List.length_cons, List.length_nil, Is, Nat.zero_add] at h14
  by_cases hf : fewL [A, C] = true
  · rw [hf] at h14
    have hl : A.length ≤ 20 ∧ C.length ≤ 20 := by
      have e : fewL [A, C] = (decide (A.length ≤ 20) && (decide (C.length ≤ 20) && true)) := rfl
      rw [e] at hf
      simpa using hf
    have main : ∀ X Y : List Int, X.length ≤ 1000 → Y.length ≤ 1000 →
        call Try.cfg 17 [.sl false X.length (X.map I), .sl false Y.length (Y.map I)] [] = some (rep2 (compL X Y), []) ∧ call Try.cfg 21 [.sl false X.length (X.map I), .sl false Y.length (Y.map I)] [] = some (rep2 (compL X Y), []) ∧
        call Try.cfg 18 [.sl false X.length (X.map I)] [] = some (rep2 (invL X), []) ∧ call Try.cfg 22 [.sl false X.length (X.map I)] [] = some (rep2 (invL X), []) ∧
        call Try.cfg 23 [.sl false X.length (X.map I)] [] = some (.v (.bool (validL X)), []) ∧ call Try.cfg 24 [.sl false X.length (X.map I)] [] = some (.v (.bool (validL X)), []) ∧
        call Try.cfg 19 [.sl false X.length (X.map I)] [] = some (.tu [.v (.int .i64 (ordL X).1), .v (.int .i64 (ordL X).2)], []) ∧ call Try.cfg 25 [.sl false X.length (X.map I)] [] = some (.tu [.v (.int .i64 (ordL X).1), .v (.int .i64 (ordL X).2)], []) ∧
        call Try.cfg 26 [.sl false X.length (X.map I)] [] = some (repL2 (cycL X), []) ∧ call Try.cfg 27 [.sl false X.length (X.map I)] [] = some (repL2 (cycL X), []) := fun X Y hX hY =>
      ⟨call17 hX hY, call21 hX hY, call18 hX, call22 hX, call23 X hX, call24 X hX, call19 hX, call25 hX, call26 hX, call27 hX⟩
    have fin : ∀ X Y : List Int, X.length ≤ 1000 → Y.length ≤ 1000 → (raw = true → X = A ∧ Y = C) → (raw = false → call Try.cfg 15 [.v (.int .i64 n), .v (.int .i64 7)] [] = some (.v (.int .i64 (n % 7)), []) ∧ call Try.cfg 16 [.sl false A.length (A.map I), .v (.int .i64 (n % 7))] [] = some (.sl false X.length (X.map I), []) ∧ call Try.cfg 16 [.sl false C.length (C.map I), .v (.int .i64 (n % 7))] [] = some (.sl false Y.length (Y.map I), [])) →
        stepA Try.cfg iter (call Try.cfg) 5 [Is A, Is C, I n, B raw] [] = some (.v (.bool true), []) := by
      intro X Y hX hY hr1 hr2
      obtain ⟨m1, m2, m3, m4, m5, m6, m7, m8, m9, m10⟩ := main X Y hX hY
      have l1 := compL_len X Y
      have l2 := invL_len X
      have l3 := cycL_len X
      generalize compL X Y = cp at *
      generalize invL X = iv at *
      generalize ordL X = od at *
      generalize cycL X = cy at *
      generalize validL X = va at *
      obtain ⟨cp1, cp2⟩ := cp
      obtain ⟨iv1, iv2⟩ := iv
      obtain ⟨od1, od2⟩ := od
      obtain ⟨cy1, cy2⟩ := cy
      have i1 := ints_self (A := cp1) (by simp at l1; omega)
      have i2 := ints_self (A := iv1) (by simp at l2; omega)
      have i3 := lists_self (A := cy1) (by have := l3.1; simp at this; omega) (fun x hx => by have := l3.2 x hx; omega)
      simp only [rep2, repL2, Is, Iss] at m1 m2 m3 m4 m7 m8 m9 m10
      cases raw with
      | true =>
        obtain ⟨rfl, rfl⟩ := hr1 rfl
        simp -implicitDefEqProofs (maxSteps := 1000000) (disch := omega) only [stepA, bodyA, Try.cfgO, Try.sh5, Try.sh14, Try.sh8, Try.sh17, Try.sh21, Try.sh18, Try.sh22, Try.sh23, Try.sh24, Try.sh20, Try.sh19, Try.sh25, Try.sh26, Try.sh27, Try.sh13, Try.func5, Try.f5, push_cast, ↓dstAt_zero, ↓dstAt_succ, ↓arun_skip, ↓arun_region, ↓arun_seq, ↓arun_cond, ↓arun_block, ↓arun_loop, ↓arun_exit, ↓arun_ret, aops_nil, aops_cons, aops_cons_guard, ↓putA_some, ↓putA_none, ↓aop_move, ↓aop_assign, ↓aop_pick, ↓aop_alloc, ↓aop_box, ↓aop_build, ↓aop_buildSlice, ↓aop_load, ↓aop_store, ↓aop_nilCheck, ↓aop_binOp, ↓aop_unOp, ↓aop_convert, ↓aop_makeSlice, ↓aop_fieldAddr, ↓aop_field, ↓aop_indexAddr, ↓aop_index, ↓aop_lookup, ↓aop_mapUpdate, ↓aop_insert, ↓aop_extract, ↓aop_callB, ↓aop_callF, ↓aop_callT, ↓aop_makeFunc, ↓aop_makeMap, ↓aop_slice, ↓aevs_nil, ↓aevs_cons, ↓evP_nil, ↓evP_cons, ↓aevO_none, ↓aevO_some, ↓reduceIte, reduceCtorEq, Nat.reduceEqDiff, Nat.reduceAdd, Nat.reduceLT, Nat.reduceSub, Nat.reduceMul, Nat.reduceLeDiff, if_true, if_false, if_pos, if_neg, h14, h8, m1, m2, m3, m4, m5, m6, m7, m8, m9, m10, i1, i2, i3, beq_self_eq_true, ne_eq, not_true_eq_false]
      | false =>
        obtain ⟨e1, e2, e3⟩ := hr2 rfl
        simp -implicitDefEqProofs (maxSteps := 1000000) (disch := omega) only [stepA, bodyA, Try.cfgO, Try.sh5, Try.sh14, Try.sh8, Try.sh15, Try.sh16, Try.sh17, Try.sh21, Try.sh18, Try.sh22, Try.sh23, Try.sh24, Try.sh20, Try.sh19, Try.sh25, Try.sh26, Try.sh27, Try.sh13, Try.func5, Try.f5, push_cast, ↓dstAt_zero, ↓dstAt_succ, ↓arun_skip, ↓arun_region, ↓arun_seq, ↓arun_cond, ↓arun_block, ↓arun_loop, ↓arun_exit, ↓arun_ret, aops_nil, aops_cons, aops_cons_guard, ↓putA_some, ↓putA_none, ↓aop_move, ↓aop_assign, ↓aop_pick, ↓aop_alloc, ↓aop_box, ↓aop_build, ↓aop_buildSlice, ↓aop_load, ↓aop_store, ↓aop_nilCheck, ↓aop_binOp, ↓aop_unOp, ↓aop_convert, ↓aop_makeSlice, ↓aop_fieldAddr, ↓aop_field, ↓aop_indexAddr, ↓aop_index, ↓aop_lookup, ↓aop_mapUpdate, ↓aop_insert, ↓aop_extract, ↓aop_callB, ↓aop_callF, ↓aop_callT, ↓aop_makeFunc, ↓aop_makeMap, ↓aop_slice, ↓aevs_nil, ↓aevs_cons, ↓evP_nil, ↓evP_cons, ↓aevO_none, ↓aevO_some, ↓reduceIte, reduceCtorEq, Nat.reduceEqDiff, Nat.reduceAdd, Nat.reduceLT, Nat.reduceSub, Nat.reduceMul, Nat.reduceLeDiff, if_true, if_false, if_pos, if_neg, h14, h8, e1, e2, e3, m1, m2, m3, m4, m5, m6, m7, m8, m9, m10, i1, i2, i3, beq_self_eq_true, ne_eq, not_true_eq_false]
    cases raw with
    | true => exact fin A C (by omega) (by omega) (fun _ => ⟨rfl, rfl⟩) (by simp)
    | false =>
      have hm1 := Int.emod_nonneg n (show (7 : Int) ≠ 0 by omega)
      have hm2 := Int.emod_lt_of_pos n (show (0 : Int) < 7 by omega)
      obtain ⟨m, hm⟩ : ∃ m : Nat, n % 7 = m := ⟨(n % 7).toNat, by omega⟩
      refine fin (permS A m) (permS C m) (permS_le (by omega)) (permS_le (by omega)) (by simp) (fun _ => ⟨call15u (by omega) (by omega) hn.1 hn.2, ?_, ?_⟩)
      · rw [hm]; exact call16 (by omega) (by omega) hrA
      · rw [hm]; exact call16 (by omega) (by omega) hrC
  · have hf' : fewL [A, C] = false := by simpa using hf
    rw [hf'] at h14
    simp -implicitDefEqProofs (maxSteps := 1000000) (disch := omega) only [stepA, bodyA, Try.cfgO, Try.sh5, Try.sh14, Try.sh8, Try.func5, Try.f5, push_cast, ↓dstAt_zero, ↓dstAt_succ, ↓arun_skip, ↓arun_region, ↓arun_seq, ↓arun_cond, ↓arun_block, ↓arun_loop, ↓arun_exit, ↓arun_ret, aops_nil, aops_cons, aops_cons_guard, ↓putA_some, ↓putA_none, ↓aop_move, ↓aop_assign, ↓aop_pick, ↓aop_alloc, ↓aop_box, ↓aop_build, ↓aop_buildSlice, ↓aop_load, ↓aop_store, ↓aop_nilCheck, ↓aop_binOp, ↓aop_unOp, ↓aop_convert, ↓aop_makeSlice, ↓aop_fieldAddr, ↓aop_field, ↓aop_indexAddr, ↓aop_index, ↓aop_lookup, ↓aop_mapUpdate, ↓aop_insert, ↓aop_extract, ↓aop_callB, ↓aop_callF, ↓aop_callT, ↓aop_makeFunc, ↓aop_makeMap, ↓aop_slice, ↓aevs_nil, ↓aevs_cons, ↓evP_nil, ↓evP_cons, ↓aevO_none, ↓aevO_some, ↓reduceIte, reduceCtorEq, Nat.reduceEqDiff, Nat.reduceAdd, Nat.reduceLT, Nat.reduceSub, Nat.reduceMul, Nat.reduceLeDiff, if_true, if_false, if_pos, if_neg, h14, h8]
end
end Go.Proofs
