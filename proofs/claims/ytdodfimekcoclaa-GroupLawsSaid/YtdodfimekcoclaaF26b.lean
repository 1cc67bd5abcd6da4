/- Cycles: the inner loop as a whole. -/
import Derived.Test.YtdodfimekcoclaaF26
set_option linter.unusedVariables false
set_option linter.unusedSimpArgs false
set_option linter.unusedSectionVars false
namespace Go.Proofs
open Go.AI
set_option maxRecDepth 20000
def cyc (A : List Int) : Nat → List Bool → List Int → Int → List Bool × List Int
  | 0, bs, c, _ => (bs, c)
  | f + 1, bs, c, k => if bs.getD k.toNat false then (bs, c) else cyc A f (bs.set k.toNat true) (c ++ [k]) (A.getD k.toNat 0)
theorem count_set {bs : List Bool} {j : Nat} (h : bs[j]? = some false) : (bs.set j true).count false + 1 = bs.count false := by
  induction bs generalizing j with
  | nil => simp at h
  | cons b r ih =>
    cases j with
    | zero => simp at h; subst h; simp
    | succ j =>
      simp only [List.set_cons_succ]
      have := ih (j := j) (by simpa using h)
      simp only [List.count_cons]
      omega
def out26 (A : List Int) (i : Nat) (out : List (List Int)) (q : List Bool × List Int) : St :=
  ([(0, Is A), (4, growR 1 out.length), (5, .ms 2 0 0 A.length 1), (7, growR 3 q.2.length), (16, I A.length), (17, I i)],
   [.cells true 0 [], .cells true out.length (out.map Is), .cells true 0 (Bs q.1), .cells true q.2.length (q.2.map I)])
theorem inner26 {a : Code} (h : loopOf 2 Try.f26 = some a) {A : List Int} (hv : validL A = true) {i : Nat} {out : List (List Int)} : ∀ (f : Nat) (bs : List Bool) (c : List Int) (k : Int), bs.length = A.length → c.length + bs.count false ≤ 6 → bs.count false ≤ f → 0 ≤ k → k < A.length →
    iter (roundA Try.cfg 26 iter (call Try.cfg) 2 a) (in26 A i out bs c k) = some (.exit 2, out26 A i out (cyc A (f + 1) bs c k))
  | f, bs, c, k, hb, hc, hf, hk, hk' => by
    have hj : k.toNat < bs.length := by omega
    have hg : bs[k.toNat]? = some (bs.getD k.toNat false) := by simp [hj]
    cases hs : bs.getD k.toNat false with
    | true =>
      rw [hs] at hg
      rw [cyc, hs, if_pos rfl]
      exact iter_last (i26b h hv hb (by omega) hk hk' hg) (by simp)
    | false =>
      rw [hs] at hg
      have hcnt := count_set hg
      have hr := valid_range hv (i := k.toNat) (by omega)
      rw [cyc, hs, if_neg (by simp)]
      refine iter_normal (i26a h hv hb (by omega) hk hk' hg) ?_
      obtain ⟨f', rfl⟩ : ∃ f', f = f' + 1 := ⟨f - 1, by omega⟩
      exact inner26 h hv f' (bs.set k.toNat true) (c ++ [k]) (A.getD k.toNat 0) (by simpa using hb) (by simp; omega) (by omega) hr.1 hr.2
end Go.Proofs
