/-
  No cell of these rows narrows 'for every input' (looked for: loops, veiled, ifaces, maps, wideKeys, modest, calm, conditions, laid).
  DERIVED. THE GIVEN ROWS OF THIS SEAT. 6 by the template 'for every input the law returns true; each argument reads behind the call as it read before'; 0 by the template 'total and deterministic' (their statements: YtfmhkcidechgdaaGreatTotals.lean).
  GIVEN WITH THE SEED: the statements are not yours to turn. If you find one false, say at which input.
  Laid BY PROGRAM, IN A SANDBOX (cutbox-rows.mjs): the forced cells as the released guide's own fill.sh prints them over the translation 5c31921e10edbf59… (all of the seat's roots in one cut). By AI agents, Wed Nov 11 2026. No macro, syntax, notation, axiom, sorry.
-/
import Derived.Test.YtfmhkcidechgdaaGreatChecked
import GoSem.Claim
import GoSem.ClaimJoined
import GoSem.ClaimMapViews
import Derived.JoinedTies
import Derived.KernelRfl
namespace Go.Proofs.YtfmhkcidechgdaaGreat
/- THE CELL 'sum', in the pinned program and in every row, IS THE sha256 OF THE DUMP (.gsa) THAT YtfmhkcidechgdaaGreatProg.lean LOADS. Nothing in Lean hashes anything: it is a label: what it is worth is what the hold of that sum in a sandbox is worth. -/
noncomputable def Tryz.pinned : Pinned := { name := "ytfmhkcidechgdaagreat", sum := "5c31921e10edbf597e90e728a14f408320979559fa7629f3b40fb92f675c817c", checked := Tryz.checked }
namespace Rows
def none {H : Type} : Left H := { results := [], args := [] }

/-- 'tremalaw10.PikeRuns': WHATEVER THE INPUT: true; the input reads as it did. -/
def pikeRunsSpec : ChangeSpec := { name := "pikeRuns", fn := fun _ => fun
  | [d1, d2, d3] => { results := [.lit (.bool true)], args := [d1, d2, d3] }
  | _ => none }
def pikeRunsRow : OpenClaim := { program := "ytfmhkcidechgdaagreat", sum := "5c31921e10edbf597e90e728a14f408320979559fa7629f3b40fb92f675c817c", func := "trema/tremalaw10.PikeRuns", spec := "pikeRuns", unfollowed := true, recurses := true, apart := false }
def PikeRunsSaid : Prop := pikeRunsRow.holds Tryz.pinned (OpenSpec.ofChange pikeRunsSpec)

/-- ITS FALSE NEIGHBOUR: 'it returns false'. Refute it at one input. -/
def pikeRunsWrong : ChangeSpec := { name := "pikeRuns", fn := fun _ => fun
  | [d1, d2, d3] => { results := [.lit (.bool false)], args := [d1, d2, d3] }
  | _ => none }
def PikeRunsWrongFalsely : Prop := pikeRunsRow.holds Tryz.pinned (OpenSpec.ofChange pikeRunsWrong)

/-- 'tremalaw10.PikeAlls': WHATEVER THE INPUT: true; the input reads as it did. -/
def pikeAllsSpec : ChangeSpec := { name := "pikeAlls", fn := fun _ => fun
  | [d1, d2] => { results := [.lit (.bool true)], args := [d1, d2] }
  | _ => none }
def pikeAllsRow : OpenClaim := { program := "ytfmhkcidechgdaagreat", sum := "5c31921e10edbf597e90e728a14f408320979559fa7629f3b40fb92f675c817c", func := "trema/tremalaw10.PikeAlls", spec := "pikeAlls", unfollowed := true, recurses := true, apart := false }
def PikeAllsSaid : Prop := pikeAllsRow.holds Tryz.pinned (OpenSpec.ofChange pikeAllsSpec)

/-- ITS FALSE NEIGHBOUR: 'it returns false'. Refute it at one input. -/
def pikeAllsWrong : ChangeSpec := { name := "pikeAlls", fn := fun _ => fun
  | [d1, d2] => { results := [.lit (.bool false)], args := [d1, d2] }
  | _ => none }
def PikeAllsWrongFalsely : Prop := pikeAllsRow.holds Tryz.pinned (OpenSpec.ofChange pikeAllsWrong)

/-- 'tremalaw10.PikeMeans': WHATEVER THE INPUT: true; the input reads as it did. -/
def pikeMeansSpec : ChangeSpec := { name := "pikeMeans", fn := fun _ => fun
  | [d1, d2] => { results := [.lit (.bool true)], args := [d1, d2] }
  | _ => none }
def pikeMeansRow : OpenClaim := { program := "ytfmhkcidechgdaagreat", sum := "5c31921e10edbf597e90e728a14f408320979559fa7629f3b40fb92f675c817c", func := "trema/tremalaw10.PikeMeans", spec := "pikeMeans", unfollowed := true, recurses := true, apart := false }
def PikeMeansSaid : Prop := pikeMeansRow.holds Tryz.pinned (OpenSpec.ofChange pikeMeansSpec)

/-- ITS FALSE NEIGHBOUR: 'it returns false'. Refute it at one input. -/
def pikeMeansWrong : ChangeSpec := { name := "pikeMeans", fn := fun _ => fun
  | [d1, d2] => { results := [.lit (.bool false)], args := [d1, d2] }
  | _ => none }
def PikeMeansWrongFalsely : Prop := pikeMeansRow.holds Tryz.pinned (OpenSpec.ofChange pikeMeansWrong)

/-- 'tremalaw10.PikeMore': WHATEVER THE INPUT: true; the input reads as it did. -/
def pikeMoreSpec : ChangeSpec := { name := "pikeMore", fn := fun _ => fun
  | [d1, d2, d3] => { results := [.lit (.bool true)], args := [d1, d2, d3] }
  | _ => none }
def pikeMoreRow : OpenClaim := { program := "ytfmhkcidechgdaagreat", sum := "5c31921e10edbf597e90e728a14f408320979559fa7629f3b40fb92f675c817c", func := "trema/tremalaw10.PikeMore", spec := "pikeMore", unfollowed := true, recurses := true, apart := false }
def PikeMoreSaid : Prop := pikeMoreRow.holds Tryz.pinned (OpenSpec.ofChange pikeMoreSpec)

/-- ITS FALSE NEIGHBOUR: 'it returns false'. Refute it at one input. -/
def pikeMoreWrong : ChangeSpec := { name := "pikeMore", fn := fun _ => fun
  | [d1, d2, d3] => { results := [.lit (.bool false)], args := [d1, d2, d3] }
  | _ => none }
def PikeMoreWrongFalsely : Prop := pikeMoreRow.holds Tryz.pinned (OpenSpec.ofChange pikeMoreWrong)

/-- 'tremalaw10.PikeShifts': WHATEVER THE INPUT: true; the input reads as it did. -/
def pikeShiftsSpec : ChangeSpec := { name := "pikeShifts", fn := fun _ => fun
  | [d1, d2, d3] => { results := [.lit (.bool true)], args := [d1, d2, d3] }
  | _ => none }
def pikeShiftsRow : OpenClaim := { program := "ytfmhkcidechgdaagreat", sum := "5c31921e10edbf597e90e728a14f408320979559fa7629f3b40fb92f675c817c", func := "trema/tremalaw10.PikeShifts", spec := "pikeShifts", unfollowed := true, recurses := true, apart := false }
def PikeShiftsSaid : Prop := pikeShiftsRow.holds Tryz.pinned (OpenSpec.ofChange pikeShiftsSpec)

/-- ITS FALSE NEIGHBOUR: 'it returns false'. Refute it at one input. -/
def pikeShiftsWrong : ChangeSpec := { name := "pikeShifts", fn := fun _ => fun
  | [d1, d2, d3] => { results := [.lit (.bool false)], args := [d1, d2, d3] }
  | _ => none }
def PikeShiftsWrongFalsely : Prop := pikeShiftsRow.holds Tryz.pinned (OpenSpec.ofChange pikeShiftsWrong)

/-- 'tremalaw10.PikeApart': WHATEVER THE INPUT: true; the input reads as it did. -/
def pikeApartSpec : ChangeSpec := { name := "pikeApart", fn := fun _ => fun
  | [d1, d2] => { results := [.lit (.bool true)], args := [d1, d2] }
  | _ => none }
def pikeApartRow : OpenClaim := { program := "ytfmhkcidechgdaagreat", sum := "5c31921e10edbf597e90e728a14f408320979559fa7629f3b40fb92f675c817c", func := "trema/tremalaw10.PikeApart", spec := "pikeApart", unfollowed := true, recurses := true, apart := false }
def PikeApartSaid : Prop := pikeApartRow.holds Tryz.pinned (OpenSpec.ofChange pikeApartSpec)

/-- ITS FALSE NEIGHBOUR: 'it returns false'. Refute it at one input. -/
def pikeApartWrong : ChangeSpec := { name := "pikeApart", fn := fun _ => fun
  | [d1, d2] => { results := [.lit (.bool false)], args := [d1, d2] }
  | _ => none }
def PikeApartWrongFalsely : Prop := pikeApartRow.holds Tryz.pinned (OpenSpec.ofChange pikeApartWrong)

/- THE SECOND FORM. 'bulk': how many values and letters a reading holds, each counted each time it is reached (what is shared counts as often as it is met; a slice's spare places count too). A statement '..UptoSaid' is the law's where the arguments, and the package variables that the reading takes, are together of bulk at most 1048576: NARROWER than '..Said'. Prove '..Said' where nothing that the law and all that it calls make is longer than what came in: it says more and counts as full. Else prove '..UptoSaid'. A law counts once. -/
mutual
def uptoBulk {H : Type} : DataW H → Nat
  | .lit (.string bytes) => bytes.length + 1
  | .lit _ => 1
  | .nil => 1
  | .ptr d => uptoBulk d + 1
  | .slice elems spare => uptoBulkAll elems + uptoBulkAll spare + 1
  | .agg parts => uptoBulkAll parts + 1
  | .iface _ d => uptoBulk d + 1
  | .map entries => uptoBulkEntries entries + 1
  | .held _ => 1
def uptoBulkAll {H : Type} : List (DataW H) → Nat
  | [] => 0
  | d :: r => uptoBulk d + uptoBulkAll r
def uptoBulkEntries {H : Type} : List (Lit × DataW H) → Nat
  | [] => 0
  | x :: r => uptoBulkEntry x + uptoBulkEntries r
def uptoBulkEntry {H : Type} : Lit × DataW H → Nat
  | (.string bytes, d) => bytes.length + uptoBulk d + 1
  | (_, d) => uptoBulk d + 1
 end
def uptoSmall : (H : Type) → List (DataW H) → Bool := fun _ ds => decide (uptoBulkAll ds ≤ 1048576)
def OpenSpec.upto (s : _root_.Go.ChangeSpec) : _root_.Go.OpenSpec := { _root_.Go.OpenSpec.ofChange s with cond := some uptoSmall }

/-- 'tremalaw10.PikeRuns', WHERE WHAT IT READS IS OF BULK AT MOST 1048576: true; the input reads as it did. -/
def pikeRunsUptoRow : OpenClaim := { program := "ytfmhkcidechgdaagreat", sum := "5c31921e10edbf597e90e728a14f408320979559fa7629f3b40fb92f675c817c", func := "trema/tremalaw10.PikeRuns", spec := "pikeRuns", unfollowed := true, recurses := true, apart := false, narrowed := true }
def PikeRunsUptoSaid : Prop := pikeRunsUptoRow.holds Tryz.pinned (OpenSpec.upto pikeRunsSpec)

/-- 'tremalaw10.PikeAlls', WHERE WHAT IT READS IS OF BULK AT MOST 1048576: true; the input reads as it did. -/
def pikeAllsUptoRow : OpenClaim := { program := "ytfmhkcidechgdaagreat", sum := "5c31921e10edbf597e90e728a14f408320979559fa7629f3b40fb92f675c817c", func := "trema/tremalaw10.PikeAlls", spec := "pikeAlls", unfollowed := true, recurses := true, apart := false, narrowed := true }
def PikeAllsUptoSaid : Prop := pikeAllsUptoRow.holds Tryz.pinned (OpenSpec.upto pikeAllsSpec)

/-- 'tremalaw10.PikeMeans', WHERE WHAT IT READS IS OF BULK AT MOST 1048576: true; the input reads as it did. -/
def pikeMeansUptoRow : OpenClaim := { program := "ytfmhkcidechgdaagreat", sum := "5c31921e10edbf597e90e728a14f408320979559fa7629f3b40fb92f675c817c", func := "trema/tremalaw10.PikeMeans", spec := "pikeMeans", unfollowed := true, recurses := true, apart := false, narrowed := true }
def PikeMeansUptoSaid : Prop := pikeMeansUptoRow.holds Tryz.pinned (OpenSpec.upto pikeMeansSpec)

/-- 'tremalaw10.PikeMore', WHERE WHAT IT READS IS OF BULK AT MOST 1048576: true; the input reads as it did. -/
def pikeMoreUptoRow : OpenClaim := { program := "ytfmhkcidechgdaagreat", sum := "5c31921e10edbf597e90e728a14f408320979559fa7629f3b40fb92f675c817c", func := "trema/tremalaw10.PikeMore", spec := "pikeMore", unfollowed := true, recurses := true, apart := false, narrowed := true }
def PikeMoreUptoSaid : Prop := pikeMoreUptoRow.holds Tryz.pinned (OpenSpec.upto pikeMoreSpec)

/-- 'tremalaw10.PikeShifts', WHERE WHAT IT READS IS OF BULK AT MOST 1048576: true; the input reads as it did. -/
def pikeShiftsUptoRow : OpenClaim := { program := "ytfmhkcidechgdaagreat", sum := "5c31921e10edbf597e90e728a14f408320979559fa7629f3b40fb92f675c817c", func := "trema/tremalaw10.PikeShifts", spec := "pikeShifts", unfollowed := true, recurses := true, apart := false, narrowed := true }
def PikeShiftsUptoSaid : Prop := pikeShiftsUptoRow.holds Tryz.pinned (OpenSpec.upto pikeShiftsSpec)

/-- 'tremalaw10.PikeApart', WHERE WHAT IT READS IS OF BULK AT MOST 1048576: true; the input reads as it did. -/
def pikeApartUptoRow : OpenClaim := { program := "ytfmhkcidechgdaagreat", sum := "5c31921e10edbf597e90e728a14f408320979559fa7629f3b40fb92f675c817c", func := "trema/tremalaw10.PikeApart", spec := "pikeApart", unfollowed := true, recurses := true, apart := false, narrowed := true }
def PikeApartUptoSaid : Prop := pikeApartUptoRow.holds Tryz.pinned (OpenSpec.upto pikeApartSpec)

end Rows
end Go.Proofs.YtfmhkcidechgdaaGreat
