/-
  No cell of these rows narrows 'for every input' (looked for: loops, veiled, ifaces, maps, wideKeys, modest, calm, conditions, laid).
  DERIVED. THE GIVEN ROWS OF THIS SEAT. 6 by the template 'for every input the law returns true; each argument reads behind the call as it read before'; 0 by the template 'total and deterministic' (their statements: YtaeobljnmfbdmaaTotals.lean).
  GIVEN WITH THE SEED: the statements are not yours to turn. If you find one false, say at which input.
  Laid BY PROGRAM, IN A SANDBOX (cutbox-rows.mjs): the forced cells as the released guide's own fill.sh prints them over the translation de97c9a8a300c5a1… (all of the seat's roots in one cut). By AI agents, Wed Nov 11 2026. No macro, syntax, notation, axiom, sorry.
-/
import Derived.Test.YtaeobljnmfbdmaaChecked
import GoSem.Claim
import GoSem.ClaimJoined
import GoSem.ClaimMapViews
import Derived.JoinedTies
import Derived.KernelRfl
namespace Go.Proofs.Ytaeobljnmfbdmaa
/- THE CELL 'sum', in the pinned program and in every row, IS THE sha256 OF THE DUMP (.gsa) THAT YtaeobljnmfbdmaaProg.lean LOADS. Nothing in Lean hashes anything: it is a label: what it is worth is what the hold of that sum in a sandbox is worth. -/
noncomputable def Try.pinned : Pinned := { name := "ytaeobljnmfbdmaa", sum := "de97c9a8a300c5a17e47e0dd6aeb2d3aa4a7782d0daf631b9c94641bd86981f4", checked := Try.checked }
namespace Rows
def none {H : Type} : Left H := { results := [], args := [] }

/-- 'tremalaw15.MergeOps': WHATEVER THE INPUT: true; the input reads as it did. -/
def mergeOpsSpec : ChangeSpec := { name := "mergeOps", fn := fun _ => fun
  | [d1, d2] => { results := [.lit (.bool true)], args := [d1, d2] }
  | _ => none }
def mergeOpsRow : OpenClaim := { program := "ytaeobljnmfbdmaa", sum := "de97c9a8a300c5a17e47e0dd6aeb2d3aa4a7782d0daf631b9c94641bd86981f4", func := "trema/tremalaw15.MergeOps", spec := "mergeOps", unfollowed := true, recurses := true, apart := false }
def MergeOpsSaid : Prop := mergeOpsRow.holds Try.pinned (OpenSpec.ofChange mergeOpsSpec)

/-- ITS FALSE NEIGHBOUR: 'it returns false'. Refute it at one input. -/
def mergeOpsWrong : ChangeSpec := { name := "mergeOps", fn := fun _ => fun
  | [d1, d2] => { results := [.lit (.bool false)], args := [d1, d2] }
  | _ => none }
def MergeOpsWrongFalsely : Prop := mergeOpsRow.holds Try.pinned (OpenSpec.ofChange mergeOpsWrong)

/-- 'tremalaw15.MergePhrases': WHATEVER THE INPUT: true; the input reads as it did. -/
def mergePhrasesSpec : ChangeSpec := { name := "mergePhrases", fn := fun _ => fun
  | [d] => { results := [.lit (.bool true)], args := [d] }
  | _ => none }
def mergePhrasesRow : OpenClaim := { program := "ytaeobljnmfbdmaa", sum := "de97c9a8a300c5a17e47e0dd6aeb2d3aa4a7782d0daf631b9c94641bd86981f4", func := "trema/tremalaw15.MergePhrases", spec := "mergePhrases", unfollowed := true, recurses := true, apart := false }
def MergePhrasesSaid : Prop := mergePhrasesRow.holds Try.pinned (OpenSpec.ofChange mergePhrasesSpec)

/-- ITS FALSE NEIGHBOUR: 'it returns false'. Refute it at one input. -/
def mergePhrasesWrong : ChangeSpec := { name := "mergePhrases", fn := fun _ => fun
  | [d] => { results := [.lit (.bool false)], args := [d] }
  | _ => none }
def MergePhrasesWrongFalsely : Prop := mergePhrasesRow.holds Try.pinned (OpenSpec.ofChange mergePhrasesWrong)

/-- 'tremalaw15.MergeAlgebra': WHATEVER THE INPUT: true; the input reads as it did. -/
def mergeAlgebraSpec : ChangeSpec := { name := "mergeAlgebra", fn := fun _ => fun
  | [d1, d2] => { results := [.lit (.bool true)], args := [d1, d2] }
  | _ => none }
def mergeAlgebraRow : OpenClaim := { program := "ytaeobljnmfbdmaa", sum := "de97c9a8a300c5a17e47e0dd6aeb2d3aa4a7782d0daf631b9c94641bd86981f4", func := "trema/tremalaw15.MergeAlgebra", spec := "mergeAlgebra", unfollowed := true, recurses := true, apart := false }
def MergeAlgebraSaid : Prop := mergeAlgebraRow.holds Try.pinned (OpenSpec.ofChange mergeAlgebraSpec)

/-- ITS FALSE NEIGHBOUR: 'it returns false'. Refute it at one input. -/
def mergeAlgebraWrong : ChangeSpec := { name := "mergeAlgebra", fn := fun _ => fun
  | [d1, d2] => { results := [.lit (.bool false)], args := [d1, d2] }
  | _ => none }
def MergeAlgebraWrongFalsely : Prop := mergeAlgebraRow.holds Try.pinned (OpenSpec.ofChange mergeAlgebraWrong)

/-- 'tremalaw15.MergeKeeps': WHATEVER THE INPUT: true; the input reads as it did. -/
def mergeKeepsSpec : ChangeSpec := { name := "mergeKeeps", fn := fun _ => fun
  | [d1, d2] => { results := [.lit (.bool true)], args := [d1, d2] }
  | _ => none }
def mergeKeepsRow : OpenClaim := { program := "ytaeobljnmfbdmaa", sum := "de97c9a8a300c5a17e47e0dd6aeb2d3aa4a7782d0daf631b9c94641bd86981f4", func := "trema/tremalaw15.MergeKeeps", spec := "mergeKeeps", unfollowed := true, recurses := true, apart := false }
def MergeKeepsSaid : Prop := mergeKeepsRow.holds Try.pinned (OpenSpec.ofChange mergeKeepsSpec)

/-- ITS FALSE NEIGHBOUR: 'it returns false'. Refute it at one input. -/
def mergeKeepsWrong : ChangeSpec := { name := "mergeKeeps", fn := fun _ => fun
  | [d1, d2] => { results := [.lit (.bool false)], args := [d1, d2] }
  | _ => none }
def MergeKeepsWrongFalsely : Prop := mergeKeepsRow.holds Try.pinned (OpenSpec.ofChange mergeKeepsWrong)

/-- 'tremalaw15.MergeThree': WHATEVER THE INPUT: true; the input reads as it did. -/
def mergeThreeSpec : ChangeSpec := { name := "mergeThree", fn := fun _ => fun
  | [d1, d2, d3] => { results := [.lit (.bool true)], args := [d1, d2, d3] }
  | _ => none }
def mergeThreeRow : OpenClaim := { program := "ytaeobljnmfbdmaa", sum := "de97c9a8a300c5a17e47e0dd6aeb2d3aa4a7782d0daf631b9c94641bd86981f4", func := "trema/tremalaw15.MergeThree", spec := "mergeThree", unfollowed := true, recurses := true, apart := false }
def MergeThreeSaid : Prop := mergeThreeRow.holds Try.pinned (OpenSpec.ofChange mergeThreeSpec)

/-- ITS FALSE NEIGHBOUR: 'it returns false'. Refute it at one input. -/
def mergeThreeWrong : ChangeSpec := { name := "mergeThree", fn := fun _ => fun
  | [d1, d2, d3] => { results := [.lit (.bool false)], args := [d1, d2, d3] }
  | _ => none }
def MergeThreeWrongFalsely : Prop := mergeThreeRow.holds Try.pinned (OpenSpec.ofChange mergeThreeWrong)

/-- 'tremalaw15.MergeRuns': WHATEVER THE INPUT: true; the input reads as it did. -/
def mergeRunsSpec : ChangeSpec := { name := "mergeRuns", fn := fun _ => fun
  | [d1, d2] => { results := [.lit (.bool true)], args := [d1, d2] }
  | _ => none }
def mergeRunsRow : OpenClaim := { program := "ytaeobljnmfbdmaa", sum := "de97c9a8a300c5a17e47e0dd6aeb2d3aa4a7782d0daf631b9c94641bd86981f4", func := "trema/tremalaw15.MergeRuns", spec := "mergeRuns", unfollowed := true, recurses := true, apart := false }
def MergeRunsSaid : Prop := mergeRunsRow.holds Try.pinned (OpenSpec.ofChange mergeRunsSpec)

/-- ITS FALSE NEIGHBOUR: 'it returns false'. Refute it at one input. -/
def mergeRunsWrong : ChangeSpec := { name := "mergeRuns", fn := fun _ => fun
  | [d1, d2] => { results := [.lit (.bool false)], args := [d1, d2] }
  | _ => none }
def MergeRunsWrongFalsely : Prop := mergeRunsRow.holds Try.pinned (OpenSpec.ofChange mergeRunsWrong)

/- THE SECOND FORM. 'bulk': how many values and letters a reading holds, each counted each time it is reached (what is shared counts as often as it is met; a slice's spare places count too). A statement '..UptoSaid' is the law's where the arguments, and the package variables that the reading takes, are together of bulk at most 1048576: NARROWER than '..Said'. Prove '..Said' where nothing that the law and all that it calls make is longer than what came in: it says more and counts as full. Else prove '..UptoSaid'. A law counts once. -/
mutual
def uptoBulk {H : Type} : DataW H → Nat
  | .lit (.string bytes) => bytes.length + 1
  | .lit _ => 1
  | .nil => 1
  | .ptr d => uptoBulk d + 1
  | .slice elems spare => uptoBulkAll elems + uptoBulkAll spare + 1
  | .agg parts => uptoBulkAll parts + 1
  | .iface _ d => uptoBulk d + 1
  | .map entries => uptoBulkEntries entries + 1
  | .held _ => 1
def uptoBulkAll {H : Type} : List (DataW H) → Nat
  | [] => 0
  | d :: r => uptoBulk d + uptoBulkAll r
def uptoBulkEntries {H : Type} : List (Lit × DataW H) → Nat
  | [] => 0
  | x :: r => uptoBulkEntry x + uptoBulkEntries r
def uptoBulkEntry {H : Type} : Lit × DataW H → Nat
  | (.string bytes, d) => bytes.length + uptoBulk d + 1
  | (_, d) => uptoBulk d + 1
 end
def uptoSmall : (H : Type) → List (DataW H) → Bool := fun _ ds => decide (uptoBulkAll ds ≤ 1048576)
def OpenSpec.upto (s : _root_.Go.ChangeSpec) : _root_.Go.OpenSpec := { _root_.Go.OpenSpec.ofChange s with cond := some uptoSmall }

/-- 'tremalaw15.MergeOps', WHERE WHAT IT READS IS OF BULK AT MOST 1048576: true; the input reads as it did. -/
def mergeOpsUptoRow : OpenClaim := { program := "ytaeobljnmfbdmaa", sum := "de97c9a8a300c5a17e47e0dd6aeb2d3aa4a7782d0daf631b9c94641bd86981f4", func := "trema/tremalaw15.MergeOps", spec := "mergeOps", unfollowed := true, recurses := true, apart := false, narrowed := true }
def MergeOpsUptoSaid : Prop := mergeOpsUptoRow.holds Try.pinned (OpenSpec.upto mergeOpsSpec)

/-- 'tremalaw15.MergePhrases', WHERE WHAT IT READS IS OF BULK AT MOST 1048576: true; the input reads as it did. -/
def mergePhrasesUptoRow : OpenClaim := { program := "ytaeobljnmfbdmaa", sum := "de97c9a8a300c5a17e47e0dd6aeb2d3aa4a7782d0daf631b9c94641bd86981f4", func := "trema/tremalaw15.MergePhrases", spec := "mergePhrases", unfollowed := true, recurses := true, apart := false, narrowed := true }
def MergePhrasesUptoSaid : Prop := mergePhrasesUptoRow.holds Try.pinned (OpenSpec.upto mergePhrasesSpec)

/-- 'tremalaw15.MergeAlgebra', WHERE WHAT IT READS IS OF BULK AT MOST 1048576: true; the input reads as it did. -/
def mergeAlgebraUptoRow : OpenClaim := { program := "ytaeobljnmfbdmaa", sum := "de97c9a8a300c5a17e47e0dd6aeb2d3aa4a7782d0daf631b9c94641bd86981f4", func := "trema/tremalaw15.MergeAlgebra", spec := "mergeAlgebra", unfollowed := true, recurses := true, apart := false, narrowed := true }
def MergeAlgebraUptoSaid : Prop := mergeAlgebraUptoRow.holds Try.pinned (OpenSpec.upto mergeAlgebraSpec)

/-- 'tremalaw15.MergeKeeps', WHERE WHAT IT READS IS OF BULK AT MOST 1048576: true; the input reads as it did. -/
def mergeKeepsUptoRow : OpenClaim := { program := "ytaeobljnmfbdmaa", sum := "de97c9a8a300c5a17e47e0dd6aeb2d3aa4a7782d0daf631b9c94641bd86981f4", func := "trema/tremalaw15.MergeKeeps", spec := "mergeKeeps", unfollowed := true, recurses := true, apart := false, narrowed := true }
def MergeKeepsUptoSaid : Prop := mergeKeepsUptoRow.holds Try.pinned (OpenSpec.upto mergeKeepsSpec)

/-- 'tremalaw15.MergeThree', WHERE WHAT IT READS IS OF BULK AT MOST 1048576: true; the input reads as it did. -/
def mergeThreeUptoRow : OpenClaim := { program := "ytaeobljnmfbdmaa", sum := "de97c9a8a300c5a17e47e0dd6aeb2d3aa4a7782d0daf631b9c94641bd86981f4", func := "trema/tremalaw15.MergeThree", spec := "mergeThree", unfollowed := true, recurses := true, apart := false, narrowed := true }
def MergeThreeUptoSaid : Prop := mergeThreeUptoRow.holds Try.pinned (OpenSpec.upto mergeThreeSpec)

/-- 'tremalaw15.MergeRuns', WHERE WHAT IT READS IS OF BULK AT MOST 1048576: true; the input reads as it did. -/
def mergeRunsUptoRow : OpenClaim := { program := "ytaeobljnmfbdmaa", sum := "de97c9a8a300c5a17e47e0dd6aeb2d3aa4a7782d0daf631b9c94641bd86981f4", func := "trema/tremalaw15.MergeRuns", spec := "mergeRuns", unfollowed := true, recurses := true, apart := false, narrowed := true }
def MergeRunsUptoSaid : Prop := mergeRunsUptoRow.holds Try.pinned (OpenSpec.upto mergeRunsSpec)

end Rows
end Go.Proofs.Ytaeobljnmfbdmaa
