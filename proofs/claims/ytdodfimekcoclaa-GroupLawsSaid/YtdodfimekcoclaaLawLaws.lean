/- GroupLaws answers true whatever the input, and each argument reads behind the call as it read before. No conditions. -/
import Derived.Test.YtdodfimekcoclaaRows
import Derived.Test.YtdodfimekcoclaaF4
import Derived.Test.YtdodfimekcoclaaAiLaw
import Derived.ProofKit
set_option linter.unusedVariables false
namespace Go.Proofs.Ytdodfimekcoclaa
open Go.ChangeShapes Go.WideShapes Go.ChangeAt Go.RowKit Go.AI
theorem own2 : ownKnob Try.prog.godebug = none := by kernel_rfl
theorem laidOut2 : laidOutB Try.prog = true := by kernel_rfl
set_option maxRecDepth 100000 in
theorem laws_lifted (os : Os) (started : os.Started) (H : Type) (enc : TypeId × Value → H) :
    ReturnsInHanded {} Try.checked os 4 .any (Rows.groupLawsSpec.pre6 enc Try.prog Try.f4 Rows.groupLawsRow.domain false) (Rows.groupLawsSpec.post enc Try.prog Try.f4 false true false false) := by
  refine returnsInHanded_of_change (C := Try.checked) own2 started (by kernel_rfl) Try.func4
    (ChangeSpec.witness6 (enc := enc) (C := Try.checked) false ⟨#[], #[.slice none 0 0, .slice none 0 0, .slice none 0 0, .int .i64 0], []⟩ 8 (by kernel_rfl) (by kernel_rfl) (by kernel_rfl) (by kernel_rfl)) ?_
  intro W base args ds gs before hval0 hW hcnd _
  have hval : ∀ (j : Nat) t v, Try.f4.params[j]? = some t → args[j]? = some v → Value.okWide Try.prog W .any base t v := hval0
  have hW' := hW
  obtain ⟨p, q, hA0, hV, rfl, hfz, hnd⟩ := hW
  have hA : DataW.TrodAll enc Try.prog W 0 (fun _ => true) true Try.f4.params.toList args.toList ds p := hA0
  rw [Try.params4] at hA hval
  obtain ⟨v0, v1, v2, v3, d0, d1, d2, d3, p0, p1, p2, p3, rfl, rfl, rfl, h0, h1, h2, h3⟩ := trodAll_four hA
  obtain ⟨rfl, rfl⟩ := trodVars_none hV
  have r0 := arg_slice Try.underlying31 (hval 0 31 v0 rfl rfl) h0
  have r1 := arg_slice Try.underlying31 (hval 1 31 v1 rfl rfl) h1
  have r2 := arg_slice Try.underlying31 (hval 2 31 v2 rfl rfl) h2
  obtain ⟨A, ⟨ra, la⟩, va, _⟩ := rd_ints Try.underlying31 Try.cells3 Try.underlying3 r0
  obtain ⟨C, ⟨rc, lc⟩, vc, _⟩ := rd_ints Try.underlying31 Try.cells3 Try.underlying3 r1
  obtain ⟨D, ⟨rd, ld⟩, vd, _⟩ := rd_ints Try.underlying31 Try.cells3 Try.underlying3 r2
  obtain ⟨n, wn, vn⟩ := arg_int Try.underlying3 (hval 3 3 v3 rfl rfl) h3
  refine (true_sound Try.fit (call4 (A := A) (C := C) (D := D) (n := n) ra rc rd wn) (cargs := [v0, v1, v2, v3]) (.cons va (.cons vc (.cons vd (.cons vn .nil))))).mono fun e W' ⟨he, hE⟩ => ?_
  exact ⟨_, he, law_post laidOut2 hW' rfl rfl rfl rfl rfl Try.underlying4 (of_decide_eq_true (by kernel_rfl)) hE⟩
theorem groupLaws_holds : Rows.GroupLawsSaid :=
  OpenClaim.holds_of_wide 4 Try.f4 rfl rfl rfl rfl rfl rfl rfl ⟨rfl, rfl, rfl, rfl, rfl⟩ rfl rfl rfl rfl rfl (by kernel_rfl) Try.func4 (by kernel_rfl)
    (of_decide_eq_true (by kernel_rfl)) (by unfold Func.isWrapper; first | (rw [if_pos (by decide +kernel)]; kernel_rfl) | (rw [if_neg (by decide +kernel)]; exact ⟨rfl, rfl⟩))
    (fun os started H enc _ => laws_lifted os started H enc)
end Go.Proofs.Ytdodfimekcoclaa
#print axioms Go.Proofs.Ytdodfimekcoclaa.groupLaws_holds
