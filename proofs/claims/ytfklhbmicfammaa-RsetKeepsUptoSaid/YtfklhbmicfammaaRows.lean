/-
  No cell of these rows narrows 'for every input' (looked for: loops, veiled, ifaces, maps, wideKeys, modest, calm, conditions, laid).
  DERIVED. THE GIVEN ROWS OF THIS SEAT. 7 by the template 'for every input the law returns true; each argument reads behind the call as it read before'; 0 by the template 'total and deterministic' (their statements: YtfklhbmicfammaaTotals.lean).
  GIVEN WITH THE SEED: the statements are not yours to turn. If you find one false, say at which input.
  Laid BY PROGRAM, IN A SANDBOX (cutbox-rows.mjs): the forced cells as the released guide's own fill.sh prints them over the translation 2773d63d6143a467… (all of the seat's roots in one cut). By AI agents, Wed Nov 11 2026. No macro, syntax, notation, axiom, sorry.
-/
import Derived.Test.YtfklhbmicfammaaChecked
import GoSem.Claim
import GoSem.ClaimJoined
import GoSem.ClaimMapViews
import Derived.JoinedTies
import Derived.KernelRfl
namespace Go.Proofs.Ytfklhbmicfammaa
/- THE CELL 'sum', in the pinned program and in every row, IS THE sha256 OF THE DUMP (.gsa) THAT YtfklhbmicfammaaProg.lean LOADS. Nothing in Lean hashes anything: it is a label: what it is worth is what the hold of that sum in a sandbox is worth. -/
noncomputable def Try.pinned : Pinned := { name := "ytfklhbmicfammaa", sum := "2773d63d6143a467e7dff4bb2c49606ed11980a08699236690059de830501753", checked := Try.checked }
namespace Rows
def none {H : Type} : Left H := { results := [], args := [] }

/-- 'tremalaw05.RsetNorms': WHATEVER THE INPUT: true; the input reads as it did. -/
def rsetNormsSpec : ChangeSpec := { name := "rsetNorms", fn := fun _ => fun
  | [d1, d2] => { results := [.lit (.bool true)], args := [d1, d2] }
  | _ => none }
def rsetNormsRow : OpenClaim := { program := "ytfklhbmicfammaa", sum := "2773d63d6143a467e7dff4bb2c49606ed11980a08699236690059de830501753", func := "trema/tremalaw05.RsetNorms", spec := "rsetNorms", unfollowed := true, recurses := true, apart := false }
def RsetNormsSaid : Prop := rsetNormsRow.holds Try.pinned (OpenSpec.ofChange rsetNormsSpec)

/-- ITS FALSE NEIGHBOUR: 'it returns false'. Refute it at one input. -/
def rsetNormsWrong : ChangeSpec := { name := "rsetNorms", fn := fun _ => fun
  | [d1, d2] => { results := [.lit (.bool false)], args := [d1, d2] }
  | _ => none }
def RsetNormsWrongFalsely : Prop := rsetNormsRow.holds Try.pinned (OpenSpec.ofChange rsetNormsWrong)

/-- 'tremalaw05.RsetOps': WHATEVER THE INPUT: true; the input reads as it did. -/
def rsetOpsSpec : ChangeSpec := { name := "rsetOps", fn := fun _ => fun
  | [d1, d2] => { results := [.lit (.bool true)], args := [d1, d2] }
  | _ => none }
def rsetOpsRow : OpenClaim := { program := "ytfklhbmicfammaa", sum := "2773d63d6143a467e7dff4bb2c49606ed11980a08699236690059de830501753", func := "trema/tremalaw05.RsetOps", spec := "rsetOps", unfollowed := true, recurses := true, apart := false }
def RsetOpsSaid : Prop := rsetOpsRow.holds Try.pinned (OpenSpec.ofChange rsetOpsSpec)

/-- ITS FALSE NEIGHBOUR: 'it returns false'. Refute it at one input. -/
def rsetOpsWrong : ChangeSpec := { name := "rsetOps", fn := fun _ => fun
  | [d1, d2] => { results := [.lit (.bool false)], args := [d1, d2] }
  | _ => none }
def RsetOpsWrongFalsely : Prop := rsetOpsRow.holds Try.pinned (OpenSpec.ofChange rsetOpsWrong)

/-- 'tremalaw05.RsetMembers': WHATEVER THE INPUT: true; the input reads as it did. -/
def rsetMembersSpec : ChangeSpec := { name := "rsetMembers", fn := fun _ => fun
  | [d1, d2, d3] => { results := [.lit (.bool true)], args := [d1, d2, d3] }
  | _ => none }
def rsetMembersRow : OpenClaim := { program := "ytfklhbmicfammaa", sum := "2773d63d6143a467e7dff4bb2c49606ed11980a08699236690059de830501753", func := "trema/tremalaw05.RsetMembers", spec := "rsetMembers", unfollowed := true, recurses := true, apart := false }
def RsetMembersSaid : Prop := rsetMembersRow.holds Try.pinned (OpenSpec.ofChange rsetMembersSpec)

/-- ITS FALSE NEIGHBOUR: 'it returns false'. Refute it at one input. -/
def rsetMembersWrong : ChangeSpec := { name := "rsetMembers", fn := fun _ => fun
  | [d1, d2, d3] => { results := [.lit (.bool false)], args := [d1, d2, d3] }
  | _ => none }
def RsetMembersWrongFalsely : Prop := rsetMembersRow.holds Try.pinned (OpenSpec.ofChange rsetMembersWrong)

/-- 'tremalaw05.RsetAlgebra': WHATEVER THE INPUT: true; the input reads as it did. -/
def rsetAlgebraSpec : ChangeSpec := { name := "rsetAlgebra", fn := fun _ => fun
  | [d1, d2, d3] => { results := [.lit (.bool true)], args := [d1, d2, d3] }
  | _ => none }
def rsetAlgebraRow : OpenClaim := { program := "ytfklhbmicfammaa", sum := "2773d63d6143a467e7dff4bb2c49606ed11980a08699236690059de830501753", func := "trema/tremalaw05.RsetAlgebra", spec := "rsetAlgebra", unfollowed := true, recurses := true, apart := false }
def RsetAlgebraSaid : Prop := rsetAlgebraRow.holds Try.pinned (OpenSpec.ofChange rsetAlgebraSpec)

/-- ITS FALSE NEIGHBOUR: 'it returns false'. Refute it at one input. -/
def rsetAlgebraWrong : ChangeSpec := { name := "rsetAlgebra", fn := fun _ => fun
  | [d1, d2, d3] => { results := [.lit (.bool false)], args := [d1, d2, d3] }
  | _ => none }
def RsetAlgebraWrongFalsely : Prop := rsetAlgebraRow.holds Try.pinned (OpenSpec.ofChange rsetAlgebraWrong)

/-- 'tremalaw05.RsetKeeps': WHATEVER THE INPUT: true; the input reads as it did. -/
def rsetKeepsSpec : ChangeSpec := { name := "rsetKeeps", fn := fun _ => fun
  | [d1, d2] => { results := [.lit (.bool true)], args := [d1, d2] }
  | _ => none }
def rsetKeepsRow : OpenClaim := { program := "ytfklhbmicfammaa", sum := "2773d63d6143a467e7dff4bb2c49606ed11980a08699236690059de830501753", func := "trema/tremalaw05.RsetKeeps", spec := "rsetKeeps", unfollowed := true, recurses := true, apart := false }
def RsetKeepsSaid : Prop := rsetKeepsRow.holds Try.pinned (OpenSpec.ofChange rsetKeepsSpec)

/-- ITS FALSE NEIGHBOUR: 'it returns false'. Refute it at one input. -/
def rsetKeepsWrong : ChangeSpec := { name := "rsetKeeps", fn := fun _ => fun
  | [d1, d2] => { results := [.lit (.bool false)], args := [d1, d2] }
  | _ => none }
def RsetKeepsWrongFalsely : Prop := rsetKeepsRow.holds Try.pinned (OpenSpec.ofChange rsetKeepsWrong)

/-- 'tremalaw05.RsetOrders': WHATEVER THE INPUT: true; the input reads as it did. -/
def rsetOrdersSpec : ChangeSpec := { name := "rsetOrders", fn := fun _ => fun
  | [d1, d2, d3] => { results := [.lit (.bool true)], args := [d1, d2, d3] }
  | _ => none }
def rsetOrdersRow : OpenClaim := { program := "ytfklhbmicfammaa", sum := "2773d63d6143a467e7dff4bb2c49606ed11980a08699236690059de830501753", func := "trema/tremalaw05.RsetOrders", spec := "rsetOrders", unfollowed := true, recurses := true, apart := false }
def RsetOrdersSaid : Prop := rsetOrdersRow.holds Try.pinned (OpenSpec.ofChange rsetOrdersSpec)

/-- ITS FALSE NEIGHBOUR: 'it returns false'. Refute it at one input. -/
def rsetOrdersWrong : ChangeSpec := { name := "rsetOrders", fn := fun _ => fun
  | [d1, d2, d3] => { results := [.lit (.bool false)], args := [d1, d2, d3] }
  | _ => none }
def RsetOrdersWrongFalsely : Prop := rsetOrdersRow.holds Try.pinned (OpenSpec.ofChange rsetOrdersWrong)

/-- 'tremalaw05.RsetPoints': WHATEVER THE INPUT: true; the input reads as it did. -/
def rsetPointsSpec : ChangeSpec := { name := "rsetPoints", fn := fun _ => fun
  | [d1, d2] => { results := [.lit (.bool true)], args := [d1, d2] }
  | _ => none }
def rsetPointsRow : OpenClaim := { program := "ytfklhbmicfammaa", sum := "2773d63d6143a467e7dff4bb2c49606ed11980a08699236690059de830501753", func := "trema/tremalaw05.RsetPoints", spec := "rsetPoints", unfollowed := true, recurses := true, apart := false }
def RsetPointsSaid : Prop := rsetPointsRow.holds Try.pinned (OpenSpec.ofChange rsetPointsSpec)

/-- ITS FALSE NEIGHBOUR: 'it returns false'. Refute it at one input. -/
def rsetPointsWrong : ChangeSpec := { name := "rsetPoints", fn := fun _ => fun
  | [d1, d2] => { results := [.lit (.bool false)], args := [d1, d2] }
  | _ => none }
def RsetPointsWrongFalsely : Prop := rsetPointsRow.holds Try.pinned (OpenSpec.ofChange rsetPointsWrong)

/- THE SECOND FORM. 'bulk': how many values and letters a reading holds, each counted each time it is reached (what is shared counts as often as it is met; a slice's spare places count too). A statement '..UptoSaid' is the law's where the arguments, and the package variables that the reading takes, are together of bulk at most 1048576: NARROWER than '..Said'. Prove '..Said' where nothing that the law and all that it calls make is longer than what came in: it says more and counts as full. Else prove '..UptoSaid'. A law counts once. -/
mutual
def uptoBulk {H : Type} : DataW H → Nat
  | .lit (.string bytes) => bytes.length + 1
  | .lit _ => 1
  | .nil => 1
  | .ptr d => uptoBulk d + 1
  | .slice elems spare => uptoBulkAll elems + uptoBulkAll spare + 1
  | .agg parts => uptoBulkAll parts + 1
  | .iface _ d => uptoBulk d + 1
  | .map entries => uptoBulkEntries entries + 1
  | .held _ => 1
def uptoBulkAll {H : Type} : List (DataW H) → Nat
  | [] => 0
  | d :: r => uptoBulk d + uptoBulkAll r
def uptoBulkEntries {H : Type} : List (Lit × DataW H) → Nat
  | [] => 0
  | x :: r => uptoBulkEntry x + uptoBulkEntries r
def uptoBulkEntry {H : Type} : Lit × DataW H → Nat
  | (.string bytes, d) => bytes.length + uptoBulk d + 1
  | (_, d) => uptoBulk d + 1
 end
def uptoSmall : (H : Type) → List (DataW H) → Bool := fun _ ds => decide (uptoBulkAll ds ≤ 1048576)
def OpenSpec.upto (s : _root_.Go.ChangeSpec) : _root_.Go.OpenSpec := { _root_.Go.OpenSpec.ofChange s with cond := some uptoSmall }

/-- 'tremalaw05.RsetNorms', WHERE WHAT IT READS IS OF BULK AT MOST 1048576: true; the input reads as it did. -/
def rsetNormsUptoRow : OpenClaim := { program := "ytfklhbmicfammaa", sum := "2773d63d6143a467e7dff4bb2c49606ed11980a08699236690059de830501753", func := "trema/tremalaw05.RsetNorms", spec := "rsetNorms", unfollowed := true, recurses := true, apart := false, narrowed := true }
def RsetNormsUptoSaid : Prop := rsetNormsUptoRow.holds Try.pinned (OpenSpec.upto rsetNormsSpec)

/-- 'tremalaw05.RsetOps', WHERE WHAT IT READS IS OF BULK AT MOST 1048576: true; the input reads as it did. -/
def rsetOpsUptoRow : OpenClaim := { program := "ytfklhbmicfammaa", sum := "2773d63d6143a467e7dff4bb2c49606ed11980a08699236690059de830501753", func := "trema/tremalaw05.RsetOps", spec := "rsetOps", unfollowed := true, recurses := true, apart := false, narrowed := true }
def RsetOpsUptoSaid : Prop := rsetOpsUptoRow.holds Try.pinned (OpenSpec.upto rsetOpsSpec)

/-- 'tremalaw05.RsetMembers', WHERE WHAT IT READS IS OF BULK AT MOST 1048576: true; the input reads as it did. -/
def rsetMembersUptoRow : OpenClaim := { program := "ytfklhbmicfammaa", sum := "2773d63d6143a467e7dff4bb2c49606ed11980a08699236690059de830501753", func := "trema/tremalaw05.RsetMembers", spec := "rsetMembers", unfollowed := true, recurses := true, apart := false, narrowed := true }
def RsetMembersUptoSaid : Prop := rsetMembersUptoRow.holds Try.pinned (OpenSpec.upto rsetMembersSpec)

/-- 'tremalaw05.RsetAlgebra', WHERE WHAT IT READS IS OF BULK AT MOST 1048576: true; the input reads as it did. -/
def rsetAlgebraUptoRow : OpenClaim := { program := "ytfklhbmicfammaa", sum := "2773d63d6143a467e7dff4bb2c49606ed11980a08699236690059de830501753", func := "trema/tremalaw05.RsetAlgebra", spec := "rsetAlgebra", unfollowed := true, recurses := true, apart := false, narrowed := true }
def RsetAlgebraUptoSaid : Prop := rsetAlgebraUptoRow.holds Try.pinned (OpenSpec.upto rsetAlgebraSpec)

/-- 'tremalaw05.RsetKeeps', WHERE WHAT IT READS IS OF BULK AT MOST 1048576: true; the input reads as it did. -/
def rsetKeepsUptoRow : OpenClaim := { program := "ytfklhbmicfammaa", sum := "2773d63d6143a467e7dff4bb2c49606ed11980a08699236690059de830501753", func := "trema/tremalaw05.RsetKeeps", spec := "rsetKeeps", unfollowed := true, recurses := true, apart := false, narrowed := true }
def RsetKeepsUptoSaid : Prop := rsetKeepsUptoRow.holds Try.pinned (OpenSpec.upto rsetKeepsSpec)

/-- 'tremalaw05.RsetOrders', WHERE WHAT IT READS IS OF BULK AT MOST 1048576: true; the input reads as it did. -/
def rsetOrdersUptoRow : OpenClaim := { program := "ytfklhbmicfammaa", sum := "2773d63d6143a467e7dff4bb2c49606ed11980a08699236690059de830501753", func := "trema/tremalaw05.RsetOrders", spec := "rsetOrders", unfollowed := true, recurses := true, apart := false, narrowed := true }
def RsetOrdersUptoSaid : Prop := rsetOrdersUptoRow.holds Try.pinned (OpenSpec.upto rsetOrdersSpec)

/-- 'tremalaw05.RsetPoints', WHERE WHAT IT READS IS OF BULK AT MOST 1048576: true; the input reads as it did. -/
def rsetPointsUptoRow : OpenClaim := { program := "ytfklhbmicfammaa", sum := "2773d63d6143a467e7dff4bb2c49606ed11980a08699236690059de830501753", func := "trema/tremalaw05.RsetPoints", spec := "rsetPoints", unfollowed := true, recurses := true, apart := false, narrowed := true }
def RsetPointsUptoSaid : Prop := rsetPointsUptoRow.holds Try.pinned (OpenSpec.upto rsetPointsSpec)

end Rows
end Go.Proofs.Ytfklhbmicfammaa
