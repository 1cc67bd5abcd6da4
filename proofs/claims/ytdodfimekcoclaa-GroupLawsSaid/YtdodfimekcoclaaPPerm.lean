/- Plain laws of permutations of at most six places. -/
import Derived.Test.YtdodfimekcoclaaF17
import Derived.KernelRfl
set_option linter.unusedVariables false
namespace Go.Proofs
open Go.AI
def enumL (n : Nat) : Nat → List Bool → List (List Int)
  | 0, _ => [[]]
  | k + 1, bs => (List.range n).flatMap fun x => if bs.getD x false then [] else (enumL n k (bs.set x true)).map fun l => (x : Int) :: l
theorem mem_enum (n : Nat) : ∀ (l : List Int) (bs : List Bool), seenL n l bs = true → l ∈ enumL n l.length bs
  | [], bs, _ => by simp [enumL]
  | x :: r, bs, h => by
    simp only [seenL] at h
    split at h
    · cases h
    · rename_i h1
      split at h
      · cases h
      · rename_i h2
        split at h
        · cases h
        · rename_i h3
          simp only [List.length_cons, enumL, List.mem_flatMap, List.mem_range]
          refine ⟨x.toNat, by omega, ?_⟩
          rw [if_neg h3]
          have e : ((x.toNat : Nat) : Int) = x := by omega
          rw [e]
          exact List.mem_map_of_mem (mem_enum n r _ h)
def six : List Bool := [false, false, false, false, false, false]
/-- What holds of all of them holds of each. -/
theorem valid_all {q : List Int → Bool} (h : ((List.range 7).all fun n => (enumL n n six).all q) = true) {A : List Int} (hv : validL A = true) : q A = true := by
  have h6 := valid_len hv
  simp only [validL, Bool.and_eq_true, decide_eq_true_eq] at hv
  have hm := mem_enum A.length A _ hv.2
  have h1 := List.all_eq_true.1 h A.length (by simp; omega)
  exact List.all_eq_true.1 h1 A hm
def powP (A : List Int) : Nat → List Int
  | 0 => A
  | j + 1 => mulP A (powP A j)
def ordOk (A : List Int) : Bool := (List.range 6).any fun j => decide (powP A j = idP A.length)
theorem ord_all : ((List.range 7).all fun n => (enumL n n six).all ordOk) = true := by kernel_rfl
end Go.Proofs
