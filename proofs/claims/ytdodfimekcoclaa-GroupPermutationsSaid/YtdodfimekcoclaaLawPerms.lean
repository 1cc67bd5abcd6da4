/- GroupPermutations answers true whatever the input, and each argument reads behind the call as it read before. No conditions. -/
import Derived.Test.YtdodfimekcoclaaRows
import Derived.Test.YtdodfimekcoclaaF5
import Derived.Test.YtdodfimekcoclaaAiLaw
import Derived.ProofKit
set_option linter.unusedVariables false
namespace Go.Proofs.Ytdodfimekcoclaa
open Go.ChangeShapes Go.WideShapes Go.ChangeAt Go.RowKit Go.AI
theorem own1 : ownKnob Try.prog.godebug = none := by kernel_rfl
theorem laidOut1 : laidOutB Try.prog = true := by kernel_rfl
set_option maxRecDepth 100000 in
theorem perms_lifted (os : Os) (started : os.Started) (H : Type) (enc : TypeId × Value → H) :
    ReturnsInHanded {} Try.checked os 5 .any (Rows.groupPermutationsSpec.pre6 enc Try.prog Try.f5 Rows.groupPermutationsRow.domain false) (Rows.groupPermutationsSpec.post enc Try.prog Try.f5 false true false false) := by
  refine returnsInHanded_of_change (C := Try.checked) own1 started (by kernel_rfl) Try.func5
    (ChangeSpec.witness6 (enc := enc) (C := Try.checked) false ⟨#[], #[.slice none 0 0, .slice none 0 0, .int .i64 0, .bool false], []⟩ 8 (by kernel_rfl) (by kernel_rfl) (by kernel_rfl) (by kernel_rfl)) ?_
  intro W base args ds gs before hval0 hW hcnd _
  have hval : ∀ (j : Nat) t v, Try.f5.params[j]? = some t → args[j]? = some v → Value.okWide Try.prog W .any base t v := hval0
  have hW' := hW
  obtain ⟨p, q, hA0, hV, rfl, hfz, hnd⟩ := hW
  have hA : DataW.TrodAll enc Try.prog W 0 (fun _ => true) true Try.f5.params.toList args.toList ds p := hA0
  rw [Try.params5] at hA hval
  obtain ⟨v0, v1, v2, v3, d0, d1, d2, d3, p0, p1, p2, p3, rfl, rfl, rfl, h0, h1, h2, h3⟩ := trodAll_four hA
  obtain ⟨rfl, rfl⟩ := trodVars_none hV
  have r0 := arg_slice Try.underlying31 (hval 0 31 v0 rfl rfl) h0
  have r1 := arg_slice Try.underlying31 (hval 1 31 v1 rfl rfl) h1
  obtain ⟨A, ⟨ra, la⟩, va, _⟩ := rd_ints Try.underlying31 Try.cells3 Try.underlying3 r0
  obtain ⟨C, ⟨rc, lc⟩, vc, _⟩ := rd_ints Try.underlying31 Try.cells3 Try.underlying3 r1
  obtain ⟨n, wn, vn⟩ := arg_int Try.underlying3 (hval 2 3 v2 rfl rfl) h2
  obtain ⟨raw, vr⟩ := arg_bool Try.underlying4 (hval 3 4 v3 rfl rfl) h3
  refine (true_sound Try.fit (call5 (A := A) (C := C) (n := n) (raw := raw) la lc ra rc wn) (cargs := [v0, v1, v2, v3]) (.cons va (.cons vc (.cons vn (.cons vr .nil))))).mono fun e W' ⟨he, hE⟩ => ?_
  exact ⟨_, he, law_post laidOut1 hW' rfl rfl rfl rfl rfl Try.underlying4 (of_decide_eq_true (by kernel_rfl)) hE⟩
theorem groupPermutations_holds : Rows.GroupPermutationsSaid :=
  OpenClaim.holds_of_wide 5 Try.f5 rfl rfl rfl rfl rfl rfl rfl ⟨rfl, rfl, rfl, rfl, rfl⟩ rfl rfl rfl rfl rfl (by kernel_rfl) Try.func5 (by kernel_rfl)
    (of_decide_eq_true (by kernel_rfl)) (by unfold Func.isWrapper; first | (rw [if_pos (by decide +kernel)]; kernel_rfl) | (rw [if_neg (by decide +kernel)]; exact ⟨rfl, rfl⟩))
    (fun os started H enc _ => perms_lifted os started H enc)
end Go.Proofs.Ytdodfimekcoclaa
#print axioms Go.Proofs.Ytdodfimekcoclaa.groupPermutations_holds
