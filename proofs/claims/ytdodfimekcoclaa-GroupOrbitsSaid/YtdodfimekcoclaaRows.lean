/-
  No cell of these rows narrows 'for every input' (looked for: loops, veiled, ifaces, maps, wideKeys, modest, calm, conditions, laid).
  DERIVED. THE GIVEN ROWS OF THIS SEAT. 4 by the template 'for every input the law returns true; each argument reads behind the call as it read before'; 0 by the template 'total and deterministic' (their statements: YtdodfimekcoclaaTotals.lean).
  GIVEN WITH THE SEED: the statements are not yours to turn. If you find one false, say at which input.
  Laid BY PROGRAM, IN A SANDBOX (cutbox-rows.mjs): the forced cells as the released guide's own fill.sh prints them over the translation 79a7c8af700a0d32… (all of the seat's roots in one cut). By AI agents, Wed Nov 11 2026. No macro, syntax, notation, axiom, sorry.
-/
import Derived.Test.YtdodfimekcoclaaChecked
import GoSem.Claim
import GoSem.ClaimJoined
import GoSem.ClaimMapViews
import Derived.JoinedTies
import Derived.KernelRfl
namespace Go.Proofs.Ytdodfimekcoclaa
/- THE CELL 'sum', in the pinned program and in every row, IS THE sha256 OF THE DUMP (.gsa) THAT YtdodfimekcoclaaProg.lean LOADS. Nothing in Lean hashes anything: it is a label: what it is worth is what the hold of that sum in a sandbox is worth. -/
noncomputable def Try.pinned : Pinned := { name := "ytdodfimekcoclaa", sum := "79a7c8af700a0d32234b9c18afd22f87d09f15f5d95990d77ead5d74720e4400", checked := Try.checked }
namespace Rows
def none {H : Type} : Left H := { results := [], args := [] }

/-- 'sosoptlaw18.GroupGenerate': WHATEVER THE INPUT: true; the input reads as it did. -/
def groupGenerateSpec : ChangeSpec := { name := "groupGenerate", fn := fun _ => fun
  | [d1, d2] => { results := [.lit (.bool true)], args := [d1, d2] }
  | _ => none }
def groupGenerateRow : OpenClaim := { program := "ytdodfimekcoclaa", sum := "79a7c8af700a0d32234b9c18afd22f87d09f15f5d95990d77ead5d74720e4400", func := "sosopt/sosoptlaw18.GroupGenerate", spec := "groupGenerate", unfollowed := true, recurses := true, plainKeys := false, apart := false }
def GroupGenerateSaid : Prop := groupGenerateRow.holds Try.pinned (OpenSpec.ofChange groupGenerateSpec)

/-- ITS FALSE NEIGHBOUR: 'it returns false'. Refute it at one input. -/
def groupGenerateWrong : ChangeSpec := { name := "groupGenerate", fn := fun _ => fun
  | [d1, d2] => { results := [.lit (.bool false)], args := [d1, d2] }
  | _ => none }
def GroupGenerateWrongFalsely : Prop := groupGenerateRow.holds Try.pinned (OpenSpec.ofChange groupGenerateWrong)

/-- 'sosoptlaw18.GroupLaws': WHATEVER THE INPUT: true; the input reads as it did. -/
def groupLawsSpec : ChangeSpec := { name := "groupLaws", fn := fun _ => fun
  | [d1, d2, d3, d4] => { results := [.lit (.bool true)], args := [d1, d2, d3, d4] }
  | _ => none }
def groupLawsRow : OpenClaim := { program := "ytdodfimekcoclaa", sum := "79a7c8af700a0d32234b9c18afd22f87d09f15f5d95990d77ead5d74720e4400", func := "sosopt/sosoptlaw18.GroupLaws", spec := "groupLaws", unfollowed := true, recurses := true, plainKeys := false, apart := false }
def GroupLawsSaid : Prop := groupLawsRow.holds Try.pinned (OpenSpec.ofChange groupLawsSpec)

/-- ITS FALSE NEIGHBOUR: 'it returns false'. Refute it at one input. -/
def groupLawsWrong : ChangeSpec := { name := "groupLaws", fn := fun _ => fun
  | [d1, d2, d3, d4] => { results := [.lit (.bool false)], args := [d1, d2, d3, d4] }
  | _ => none }
def GroupLawsWrongFalsely : Prop := groupLawsRow.holds Try.pinned (OpenSpec.ofChange groupLawsWrong)

/-- 'sosoptlaw18.GroupPermutations': WHATEVER THE INPUT: true; the input reads as it did. -/
def groupPermutationsSpec : ChangeSpec := { name := "groupPermutations", fn := fun _ => fun
  | [d1, d2, d3, d4] => { results := [.lit (.bool true)], args := [d1, d2, d3, d4] }
  | _ => none }
def groupPermutationsRow : OpenClaim := { program := "ytdodfimekcoclaa", sum := "79a7c8af700a0d32234b9c18afd22f87d09f15f5d95990d77ead5d74720e4400", func := "sosopt/sosoptlaw18.GroupPermutations", spec := "groupPermutations", unfollowed := true, recurses := true, plainKeys := false, apart := false }
def GroupPermutationsSaid : Prop := groupPermutationsRow.holds Try.pinned (OpenSpec.ofChange groupPermutationsSpec)

/-- ITS FALSE NEIGHBOUR: 'it returns false'. Refute it at one input. -/
def groupPermutationsWrong : ChangeSpec := { name := "groupPermutations", fn := fun _ => fun
  | [d1, d2, d3, d4] => { results := [.lit (.bool false)], args := [d1, d2, d3, d4] }
  | _ => none }
def GroupPermutationsWrongFalsely : Prop := groupPermutationsRow.holds Try.pinned (OpenSpec.ofChange groupPermutationsWrong)

/-- 'sosoptlaw18.GroupOrbits': WHATEVER THE INPUT: true; the input reads as it did. -/
def groupOrbitsSpec : ChangeSpec := { name := "groupOrbits", fn := fun _ => fun
  | [d1, d2, d3, d4, d5, d6] => { results := [.lit (.bool true)], args := [d1, d2, d3, d4, d5, d6] }
  | _ => none }
def groupOrbitsRow : OpenClaim := { program := "ytdodfimekcoclaa", sum := "79a7c8af700a0d32234b9c18afd22f87d09f15f5d95990d77ead5d74720e4400", func := "sosopt/sosoptlaw18.GroupOrbits", spec := "groupOrbits", unfollowed := true, recurses := true, plainKeys := false, apart := false }
def GroupOrbitsSaid : Prop := groupOrbitsRow.holds Try.pinned (OpenSpec.ofChange groupOrbitsSpec)

/-- ITS FALSE NEIGHBOUR: 'it returns false'. Refute it at one input. -/
def groupOrbitsWrong : ChangeSpec := { name := "groupOrbits", fn := fun _ => fun
  | [d1, d2, d3, d4, d5, d6] => { results := [.lit (.bool false)], args := [d1, d2, d3, d4, d5, d6] }
  | _ => none }
def GroupOrbitsWrongFalsely : Prop := groupOrbitsRow.holds Try.pinned (OpenSpec.ofChange groupOrbitsWrong)

/- THE SECOND FORM. 'bulk': how many values and letters a reading holds, each counted each time it is reached (what is shared counts as often as it is met; a slice's spare places count too). A statement '..UptoSaid' is the law's where the arguments, and the package variables that the reading takes, are together of bulk at most 1048576: NARROWER than '..Said'. Prove '..Said' where nothing that the law and all that it calls make is longer than what came in: it says more and counts as full. Else prove '..UptoSaid'. A law counts once. -/
mutual
def uptoBulk {H : Type} : DataW H → Nat
  | .lit (.string bytes) => bytes.length + 1
  | .lit _ => 1
  | .nil => 1
  | .ptr d => uptoBulk d + 1
  | .slice elems spare => uptoBulkAll elems + uptoBulkAll spare + 1
  | .agg parts => uptoBulkAll parts + 1
  | .iface _ d => uptoBulk d + 1
  | .map entries => uptoBulkEntries entries + 1
  | .held _ => 1
def uptoBulkAll {H : Type} : List (DataW H) → Nat
  | [] => 0
  | d :: r => uptoBulk d + uptoBulkAll r
def uptoBulkEntries {H : Type} : List (Lit × DataW H) → Nat
  | [] => 0
  | x :: r => uptoBulkEntry x + uptoBulkEntries r
def uptoBulkEntry {H : Type} : Lit × DataW H → Nat
  | (.string bytes, d) => bytes.length + uptoBulk d + 1
  | (_, d) => uptoBulk d + 1
 end
def uptoSmall : (H : Type) → List (DataW H) → Bool := fun _ ds => decide (uptoBulkAll ds ≤ 1048576)
def OpenSpec.upto (s : _root_.Go.ChangeSpec) : _root_.Go.OpenSpec := { _root_.Go.OpenSpec.ofChange s with cond := some uptoSmall }

/-- 'sosoptlaw18.GroupGenerate', WHERE WHAT IT READS IS OF BULK AT MOST 1048576: true; the input reads as it did. -/
def groupGenerateUptoRow : OpenClaim := { program := "ytdodfimekcoclaa", sum := "79a7c8af700a0d32234b9c18afd22f87d09f15f5d95990d77ead5d74720e4400", func := "sosopt/sosoptlaw18.GroupGenerate", spec := "groupGenerate", unfollowed := true, recurses := true, plainKeys := false, apart := false, narrowed := true }
def GroupGenerateUptoSaid : Prop := groupGenerateUptoRow.holds Try.pinned (OpenSpec.upto groupGenerateSpec)

/-- 'sosoptlaw18.GroupLaws', WHERE WHAT IT READS IS OF BULK AT MOST 1048576: true; the input reads as it did. -/
def groupLawsUptoRow : OpenClaim := { program := "ytdodfimekcoclaa", sum := "79a7c8af700a0d32234b9c18afd22f87d09f15f5d95990d77ead5d74720e4400", func := "sosopt/sosoptlaw18.GroupLaws", spec := "groupLaws", unfollowed := true, recurses := true, plainKeys := false, apart := false, narrowed := true }
def GroupLawsUptoSaid : Prop := groupLawsUptoRow.holds Try.pinned (OpenSpec.upto groupLawsSpec)

/-- 'sosoptlaw18.GroupPermutations', WHERE WHAT IT READS IS OF BULK AT MOST 1048576: true; the input reads as it did. -/
def groupPermutationsUptoRow : OpenClaim := { program := "ytdodfimekcoclaa", sum := "79a7c8af700a0d32234b9c18afd22f87d09f15f5d95990d77ead5d74720e4400", func := "sosopt/sosoptlaw18.GroupPermutations", spec := "groupPermutations", unfollowed := true, recurses := true, plainKeys := false, apart := false, narrowed := true }
def GroupPermutationsUptoSaid : Prop := groupPermutationsUptoRow.holds Try.pinned (OpenSpec.upto groupPermutationsSpec)

/-- 'sosoptlaw18.GroupOrbits', WHERE WHAT IT READS IS OF BULK AT MOST 1048576: true; the input reads as it did. -/
def groupOrbitsUptoRow : OpenClaim := { program := "ytdodfimekcoclaa", sum := "79a7c8af700a0d32234b9c18afd22f87d09f15f5d95990d77ead5d74720e4400", func := "sosopt/sosoptlaw18.GroupOrbits", spec := "groupOrbits", unfollowed := true, recurses := true, plainKeys := false, apart := false, narrowed := true }
def GroupOrbitsUptoSaid : Prop := groupOrbitsUptoRow.holds Try.pinned (OpenSpec.upto groupOrbitsSpec)

end Rows
end Go.Proofs.Ytdodfimekcoclaa
