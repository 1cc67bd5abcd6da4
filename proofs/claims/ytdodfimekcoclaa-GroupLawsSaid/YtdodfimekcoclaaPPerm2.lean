/- Plain laws of permutations: what is valid, products, the lists of `permS`. -/
import Derived.Test.YtdodfimekcoclaaPPerm
import Derived.Test.YtdodfimekcoclaaF16
set_option linter.unusedVariables false
namespace Go.Proofs
open Go.AI
theorem seenL_iff (n : Int) : ∀ (l : List Int) (bs : List Bool), n ≤ bs.length → (seenL n l bs = true ↔ (∀ x ∈ l, 0 ≤ x ∧ x < n ∧ bs.getD x.toNat false = false) ∧ l.Nodup)
  | [], bs, hn => by simp [seenL]
  | x :: r, bs, hn => by
    simp only [seenL]
    by_cases h1 : x < 0
    · rw [if_pos h1]
      constructor
      · intro h; cases h
      · rintro ⟨h, _⟩
        have := (h x (by simp)).1
        omega
    by_cases h2 : n ≤ x
    · rw [if_neg h1, if_pos h2]
      constructor
      · intro h; cases h
      · rintro ⟨h, _⟩
        have := (h x (by simp)).2.1
        omega
    rw [if_neg h1, if_neg h2]
    cases h3 : bs.getD x.toNat false with
    | true =>
      rw [if_pos rfl]
      constructor
      · intro h; cases h
      · rintro ⟨h, _⟩
        have := (h x (by simp)).2.2
        rw [h3] at this; cases this
    | false =>
      rw [if_neg (by simp), seenL_iff n r _ (by simpa using hn)]
      have hg : ∀ y : Int, 0 ≤ y → y < n → ((bs.set x.toNat true).getD y.toNat false = false ↔ (y ≠ x ∧ bs.getD y.toNat false = false)) := by
        intro y hy hy'
        by_cases e : y = x
        · subst e
          have : y.toNat < bs.length := by omega
          simp [List.getD_eq_getElem?_getD, List.getElem?_set_self, this]
        · have : x.toNat ≠ y.toNat := by omega
          simp only [List.getD_eq_getElem?_getD, List.getElem?_set_ne this, ne_eq, e, not_false_eq_true, true_and]
      constructor
      · rintro ⟨h, hd⟩
        refine ⟨fun y hy => ?_, ?_⟩
        · rcases List.mem_cons.1 hy with rfl | hy
          · exact ⟨by omega, by omega, h3⟩
          · have := h y hy
            exact ⟨this.1, this.2.1, ((hg y this.1 this.2.1).1 this.2.2).2⟩
        · refine List.nodup_cons.2 ⟨fun hx => ?_, hd⟩
          have := h x hx
          exact ((hg x this.1 this.2.1).1 this.2.2).1 rfl
      · rintro ⟨h, hd⟩
        have hd := List.nodup_cons.1 hd
        refine ⟨fun y hy => ?_, hd.2⟩
        have := h y (by simp [hy])
        exact ⟨this.1, this.2.1, (hg y this.1 this.2.1).2 ⟨fun e => hd.1 (e ▸ hy), this.2.2⟩⟩
theorem valid_iff (A : List Int) : validL A = true ↔ A.length ≤ 6 ∧ (∀ x ∈ A, 0 ≤ x ∧ x < A.length) ∧ A.Nodup := by
  unfold validL
  rw [Bool.and_eq_true, decide_eq_true_eq]
  have hz : ∀ k, [false, false, false, false, false, false].getD k false = false := by
    intro k
    rcases k with _ | _ | _ | _ | _ | _ | k <;> rfl
  constructor
  · rintro ⟨h1, h2⟩
    rw [seenL_iff _ _ _ (by simp; omega)] at h2
    exact ⟨h1, fun x hx => ⟨(h2.1 x hx).1, (h2.1 x hx).2.1⟩, h2.2⟩
  · rintro ⟨h1, h2, h3⟩
    refine ⟨h1, ?_⟩
    rw [seenL_iff _ _ _ (by simp; omega)]
    exact ⟨fun x hx => ⟨(h2 x hx).1, (h2 x hx).2, hz _⟩, h3⟩
theorem getD_mem {A : List Int} {i : Nat} (h : i < A.length) : A.getD i 0 ∈ A := by
  have : A.getD i 0 = A[i] := by simp [h]
  rw [this]; exact List.getElem_mem h
theorem getD_inj {A : List Int} (hd : A.Nodup) {i j : Nat} (hi : i < A.length) (hj : j < A.length) (h : A.getD i 0 = A.getD j 0) : i = j := by
  have e1 : A.getD i 0 = A[i] := by simp [hi]
  have e2 : A.getD j 0 = A[j] := by simp [hj]
  rw [e1, e2] at h
  rcases Nat.lt_trichotomy i j with hlt | he | hlt
  · exact absurd h (List.pairwise_iff_getElem.1 hd i j hi hj hlt)
  · exact he
  · exact absurd h.symm (List.pairwise_iff_getElem.1 hd j i hj hi hlt)
theorem mulP_getD {A C : List Int} {i : Nat} (h : i < A.length) : (mulP A C).getD i 0 = A.getD (C.getD i 0).toNat 0 := by simp [mulP, h]
theorem mulP_valid {A C : List Int} (hA : validL A = true) (hC : validL C = true) (hl : A.length = C.length) : validL (mulP A C) = true := by
  have vA := (valid_iff A).1 hA
  have vC := (valid_iff C).1 hC
  rw [valid_iff]
  refine ⟨by rw [mulP_length]; exact vA.1, fun x hx => ?_, ?_⟩
  · rw [mulP_length]
    simp only [mulP, List.mem_map, List.mem_range] at hx
    obtain ⟨j, hj, rfl⟩ := hx
    have := valid_range hC (i := j) (by omega)
    exact valid_range hA (by omega)
  · unfold mulP
    rw [List.Nodup, List.pairwise_map]
    refine List.Pairwise.imp_of_mem ?_ (List.nodup_range (n := A.length))
    intro i j hi hj hne h
    simp only [List.mem_range] at hi hj
    have r1 := valid_range hC (i := i) (by omega)
    have r2 := valid_range hC (i := j) (by omega)
    have := getD_inj vA.2.2 (by omega) (by omega) h
    exact hne (getD_inj vC.2.2 (by omega) (by omega) (by omega))
theorem mulP_assoc {A C D : List Int} (hl : A.length = C.length) (hl' : C.length = D.length) (hD : validL D = true) : mulP (mulP A C) D = mulP A (mulP C D) := by
  apply List.ext_getElem (by simp [mulP_length])
  intro i h1 h2
  rw [mulP_length, mulP_length] at h1
  have r := valid_range hD (i := i) (by omega)
  have e1 : (mulP (mulP A C) D)[i] = (mulP (mulP A C) D).getD i 0 := by simp [mulP_length, h1]
  have e2 : (mulP A (mulP C D))[i] = (mulP A (mulP C D)).getD i 0 := by simp [mulP_length, h1]
  rw [e1, e2, mulP_getD (by rw [mulP_length]; omega), mulP_getD (by omega), mulP_getD (by omega), mulP_getD (by omega)]
/-- All lists that `permS` may make. -/
def allP : Nat → List (List Int)
  | 0 => [[]]
  | i + 1 => (allP i).flatMap fun l => (List.range (i + 1)).map fun k => putP l k i
theorem permS_mem (A : List Int) : ∀ n, permS A n ∈ allP n
  | 0 => by simp [allP, permS]
  | i + 1 => by
    simp only [allP, permS, List.mem_flatMap, List.mem_map, List.mem_range]
    refine ⟨permS A i, permS_mem A i, _, ?_, rfl⟩
    split
    · have h1 := Int.emod_nonneg (A.getD i 0) (show (i : Int) + 1 ≠ 0 by omega)
      have h2 := Int.emod_lt_of_pos (A.getD i 0) (show (0 : Int) < (i : Int) + 1 by omega)
      omega
    · omega
theorem allP_valid : ((List.range 7).all fun n => (allP n).all validL) = true := by kernel_rfl
theorem permS_valid (A : List Int) {n : Nat} (h : n ≤ 6) : validL (permS A n) = true := by
  have h1 := List.all_eq_true.1 allP_valid n (by simp; omega)
  exact List.all_eq_true.1 h1 _ (permS_mem A n)
end Go.Proofs
