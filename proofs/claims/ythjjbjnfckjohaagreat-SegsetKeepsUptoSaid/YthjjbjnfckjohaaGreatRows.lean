/-
  No cell of these rows narrows 'for every input' (looked for: loops, veiled, ifaces, maps, wideKeys, modest, calm, conditions, laid).
  DERIVED. THE GIVEN ROWS OF THIS SEAT. 5 by the template 'for every input the law returns true; each argument reads behind the call as it read before'; 0 by the template 'total and deterministic' (their statements: YthjjbjnfckjohaaGreatTotals.lean).
  GIVEN WITH THE SEED: the statements are not yours to turn. If you find one false, say at which input.
  Laid BY PROGRAM, IN A SANDBOX (cutbox-rows.mjs): the forced cells as the released guide's own fill.sh prints them over the translation f921e19b8f969472… (all of the seat's roots in one cut). By AI agents, Wed Nov 11 2026. No macro, syntax, notation, axiom, sorry.
-/
import Derived.Test.YthjjbjnfckjohaaGreatChecked
import GoSem.Claim
import GoSem.ClaimJoined
import GoSem.ClaimMapViews
import Derived.JoinedTies
import Derived.KernelRfl
namespace Go.Proofs.YthjjbjnfckjohaaGreat
/- THE CELL 'sum', in the pinned program and in every row, IS THE sha256 OF THE DUMP (.gsa) THAT YthjjbjnfckjohaaGreatProg.lean LOADS. Nothing in Lean hashes anything: it is a label: what it is worth is what the hold of that sum in a sandbox is worth. -/
noncomputable def Tryz.pinned : Pinned := { name := "ythjjbjnfckjohaagreat", sum := "f921e19b8f969472b72d7d94bb78ace3769131fd9356bca35f2be5e5c78fce2f", checked := Tryz.checked }
namespace Rows
def none {H : Type} : Left H := { results := [], args := [] }

/-- 'tremalaw06.SegsetMembers': WHATEVER THE INPUT: true; the input reads as it did. -/
def segsetMembersSpec : ChangeSpec := { name := "segsetMembers", fn := fun _ => fun
  | [d1, d2, d3] => { results := [.lit (.bool true)], args := [d1, d2, d3] }
  | _ => none }
def segsetMembersRow : OpenClaim := { program := "ythjjbjnfckjohaagreat", sum := "f921e19b8f969472b72d7d94bb78ace3769131fd9356bca35f2be5e5c78fce2f", func := "trema/tremalaw06.SegsetMembers", spec := "segsetMembers", unfollowed := true, recurses := true, apart := false }
def SegsetMembersSaid : Prop := segsetMembersRow.holds Tryz.pinned (OpenSpec.ofChange segsetMembersSpec)

/-- ITS FALSE NEIGHBOUR: 'it returns false'. Refute it at one input. -/
def segsetMembersWrong : ChangeSpec := { name := "segsetMembers", fn := fun _ => fun
  | [d1, d2, d3] => { results := [.lit (.bool false)], args := [d1, d2, d3] }
  | _ => none }
def SegsetMembersWrongFalsely : Prop := segsetMembersRow.holds Tryz.pinned (OpenSpec.ofChange segsetMembersWrong)

/-- 'tremalaw06.SegsetAlgebra': WHATEVER THE INPUT: true; the input reads as it did. -/
def segsetAlgebraSpec : ChangeSpec := { name := "segsetAlgebra", fn := fun _ => fun
  | [d1, d2, d3] => { results := [.lit (.bool true)], args := [d1, d2, d3] }
  | _ => none }
def segsetAlgebraRow : OpenClaim := { program := "ythjjbjnfckjohaagreat", sum := "f921e19b8f969472b72d7d94bb78ace3769131fd9356bca35f2be5e5c78fce2f", func := "trema/tremalaw06.SegsetAlgebra", spec := "segsetAlgebra", unfollowed := true, recurses := true, apart := false }
def SegsetAlgebraSaid : Prop := segsetAlgebraRow.holds Tryz.pinned (OpenSpec.ofChange segsetAlgebraSpec)

/-- ITS FALSE NEIGHBOUR: 'it returns false'. Refute it at one input. -/
def segsetAlgebraWrong : ChangeSpec := { name := "segsetAlgebra", fn := fun _ => fun
  | [d1, d2, d3] => { results := [.lit (.bool false)], args := [d1, d2, d3] }
  | _ => none }
def SegsetAlgebraWrongFalsely : Prop := segsetAlgebraRow.holds Tryz.pinned (OpenSpec.ofChange segsetAlgebraWrong)

/-- 'tremalaw06.SegsetKeeps': WHATEVER THE INPUT: true; the input reads as it did. -/
def segsetKeepsSpec : ChangeSpec := { name := "segsetKeeps", fn := fun _ => fun
  | [d1, d2] => { results := [.lit (.bool true)], args := [d1, d2] }
  | _ => none }
def segsetKeepsRow : OpenClaim := { program := "ythjjbjnfckjohaagreat", sum := "f921e19b8f969472b72d7d94bb78ace3769131fd9356bca35f2be5e5c78fce2f", func := "trema/tremalaw06.SegsetKeeps", spec := "segsetKeeps", unfollowed := true, recurses := true, apart := false }
def SegsetKeepsSaid : Prop := segsetKeepsRow.holds Tryz.pinned (OpenSpec.ofChange segsetKeepsSpec)

/-- ITS FALSE NEIGHBOUR: 'it returns false'. Refute it at one input. -/
def segsetKeepsWrong : ChangeSpec := { name := "segsetKeeps", fn := fun _ => fun
  | [d1, d2] => { results := [.lit (.bool false)], args := [d1, d2] }
  | _ => none }
def SegsetKeepsWrongFalsely : Prop := segsetKeepsRow.holds Tryz.pinned (OpenSpec.ofChange segsetKeepsWrong)

/-- 'tremalaw06.SegsetTexts': WHATEVER THE INPUT: true; the input reads as it did. -/
def segsetTextsSpec : ChangeSpec := { name := "segsetTexts", fn := fun _ => fun
  | [d1, d2] => { results := [.lit (.bool true)], args := [d1, d2] }
  | _ => none }
def segsetTextsRow : OpenClaim := { program := "ythjjbjnfckjohaagreat", sum := "f921e19b8f969472b72d7d94bb78ace3769131fd9356bca35f2be5e5c78fce2f", func := "trema/tremalaw06.SegsetTexts", spec := "segsetTexts", unfollowed := true, recurses := true, apart := false }
def SegsetTextsSaid : Prop := segsetTextsRow.holds Tryz.pinned (OpenSpec.ofChange segsetTextsSpec)

/-- ITS FALSE NEIGHBOUR: 'it returns false'. Refute it at one input. -/
def segsetTextsWrong : ChangeSpec := { name := "segsetTexts", fn := fun _ => fun
  | [d1, d2] => { results := [.lit (.bool false)], args := [d1, d2] }
  | _ => none }
def SegsetTextsWrongFalsely : Prop := segsetTextsRow.holds Tryz.pinned (OpenSpec.ofChange segsetTextsWrong)

/-- 'tremalaw06.SegsetFirsts': WHATEVER THE INPUT: true; the input reads as it did. -/
def segsetFirstsSpec : ChangeSpec := { name := "segsetFirsts", fn := fun _ => fun
  | [d1, d2] => { results := [.lit (.bool true)], args := [d1, d2] }
  | _ => none }
def segsetFirstsRow : OpenClaim := { program := "ythjjbjnfckjohaagreat", sum := "f921e19b8f969472b72d7d94bb78ace3769131fd9356bca35f2be5e5c78fce2f", func := "trema/tremalaw06.SegsetFirsts", spec := "segsetFirsts", unfollowed := true, recurses := true, apart := false }
def SegsetFirstsSaid : Prop := segsetFirstsRow.holds Tryz.pinned (OpenSpec.ofChange segsetFirstsSpec)

/-- ITS FALSE NEIGHBOUR: 'it returns false'. Refute it at one input. -/
def segsetFirstsWrong : ChangeSpec := { name := "segsetFirsts", fn := fun _ => fun
  | [d1, d2] => { results := [.lit (.bool false)], args := [d1, d2] }
  | _ => none }
def SegsetFirstsWrongFalsely : Prop := segsetFirstsRow.holds Tryz.pinned (OpenSpec.ofChange segsetFirstsWrong)

/- THE SECOND FORM. 'bulk': how many values and letters a reading holds, each counted each time it is reached (what is shared counts as often as it is met; a slice's spare places count too). A statement '..UptoSaid' is the law's where the arguments, and the package variables that the reading takes, are together of bulk at most 1048576: NARROWER than '..Said'. Prove '..Said' where nothing that the law and all that it calls make is longer than what came in: it says more and counts as full. Else prove '..UptoSaid'. A law counts once. -/
mutual
def uptoBulk {H : Type} : DataW H → Nat
  | .lit (.string bytes) => bytes.length + 1
  | .lit _ => 1
  | .nil => 1
  | .ptr d => uptoBulk d + 1
  | .slice elems spare => uptoBulkAll elems + uptoBulkAll spare + 1
  | .agg parts => uptoBulkAll parts + 1
  | .iface _ d => uptoBulk d + 1
  | .map entries => uptoBulkEntries entries + 1
  | .held _ => 1
def uptoBulkAll {H : Type} : List (DataW H) → Nat
  | [] => 0
  | d :: r => uptoBulk d + uptoBulkAll r
def uptoBulkEntries {H : Type} : List (Lit × DataW H) → Nat
  | [] => 0
  | x :: r => uptoBulkEntry x + uptoBulkEntries r
def uptoBulkEntry {H : Type} : Lit × DataW H → Nat
  | (.string bytes, d) => bytes.length + uptoBulk d + 1
  | (_, d) => uptoBulk d + 1
 end
def uptoSmall : (H : Type) → List (DataW H) → Bool := fun _ ds => decide (uptoBulkAll ds ≤ 1048576)
def OpenSpec.upto (s : _root_.Go.ChangeSpec) : _root_.Go.OpenSpec := { _root_.Go.OpenSpec.ofChange s with cond := some uptoSmall }

/-- 'tremalaw06.SegsetMembers', WHERE WHAT IT READS IS OF BULK AT MOST 1048576: true; the input reads as it did. -/
def segsetMembersUptoRow : OpenClaim := { program := "ythjjbjnfckjohaagreat", sum := "f921e19b8f969472b72d7d94bb78ace3769131fd9356bca35f2be5e5c78fce2f", func := "trema/tremalaw06.SegsetMembers", spec := "segsetMembers", unfollowed := true, recurses := true, apart := false, narrowed := true }
def SegsetMembersUptoSaid : Prop := segsetMembersUptoRow.holds Tryz.pinned (OpenSpec.upto segsetMembersSpec)

/-- 'tremalaw06.SegsetAlgebra', WHERE WHAT IT READS IS OF BULK AT MOST 1048576: true; the input reads as it did. -/
def segsetAlgebraUptoRow : OpenClaim := { program := "ythjjbjnfckjohaagreat", sum := "f921e19b8f969472b72d7d94bb78ace3769131fd9356bca35f2be5e5c78fce2f", func := "trema/tremalaw06.SegsetAlgebra", spec := "segsetAlgebra", unfollowed := true, recurses := true, apart := false, narrowed := true }
def SegsetAlgebraUptoSaid : Prop := segsetAlgebraUptoRow.holds Tryz.pinned (OpenSpec.upto segsetAlgebraSpec)

/-- 'tremalaw06.SegsetKeeps', WHERE WHAT IT READS IS OF BULK AT MOST 1048576: true; the input reads as it did. -/
def segsetKeepsUptoRow : OpenClaim := { program := "ythjjbjnfckjohaagreat", sum := "f921e19b8f969472b72d7d94bb78ace3769131fd9356bca35f2be5e5c78fce2f", func := "trema/tremalaw06.SegsetKeeps", spec := "segsetKeeps", unfollowed := true, recurses := true, apart := false, narrowed := true }
def SegsetKeepsUptoSaid : Prop := segsetKeepsUptoRow.holds Tryz.pinned (OpenSpec.upto segsetKeepsSpec)

/-- 'tremalaw06.SegsetTexts', WHERE WHAT IT READS IS OF BULK AT MOST 1048576: true; the input reads as it did. -/
def segsetTextsUptoRow : OpenClaim := { program := "ythjjbjnfckjohaagreat", sum := "f921e19b8f969472b72d7d94bb78ace3769131fd9356bca35f2be5e5c78fce2f", func := "trema/tremalaw06.SegsetTexts", spec := "segsetTexts", unfollowed := true, recurses := true, apart := false, narrowed := true }
def SegsetTextsUptoSaid : Prop := segsetTextsUptoRow.holds Tryz.pinned (OpenSpec.upto segsetTextsSpec)

/-- 'tremalaw06.SegsetFirsts', WHERE WHAT IT READS IS OF BULK AT MOST 1048576: true; the input reads as it did. -/
def segsetFirstsUptoRow : OpenClaim := { program := "ythjjbjnfckjohaagreat", sum := "f921e19b8f969472b72d7d94bb78ace3769131fd9356bca35f2be5e5c78fce2f", func := "trema/tremalaw06.SegsetFirsts", spec := "segsetFirsts", unfollowed := true, recurses := true, apart := false, narrowed := true }
def SegsetFirstsUptoSaid : Prop := segsetFirstsUptoRow.holds Tryz.pinned (OpenSpec.upto segsetFirstsSpec)

end Rows
end Go.Proofs.YthjjbjnfckjohaaGreat
