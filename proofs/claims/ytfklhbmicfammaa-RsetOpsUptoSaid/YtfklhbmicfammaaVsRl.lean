/- The laws of the sets of numbers: each returns true where what it reads is of bulk at most 1048576, and leaves the rest as it was. -/
import Derived.Test.YtfklhbmicfammaaRows
import Derived.Test.YtfklhbmicfammaaVsRs2
import Derived.Test.YtfklhbmicfammaaVsRm11
import Derived.Test.YtfklhbmicfammaaVsRow
set_option linter.unusedVariables false
set_option maxRecDepth 100000
namespace Go.Proofs.Ytfklhbmicfammaa
open Go Go.Vs Go.Vs.Rs Go.ChangeShapes Go.WideShapes Go.ChangeAt Go.RowKit

mutual
theorem bulkIs {H : Type} : ∀ d : DataW H, Vs.bulk d = Rows.uptoBulk d
  | .lit l => by cases l <;> simp only [Vs.bulk, Rows.uptoBulk]
  | .nil => by simp only [Vs.bulk, Rows.uptoBulk]
  | .ptr d => by simp only [Vs.bulk, Rows.uptoBulk, bulkIs d]
  | .slice e s => by simp only [Vs.bulk, Rows.uptoBulk, bulkAllIs e, bulkAllIs s]
  | .agg p => by simp only [Vs.bulk, Rows.uptoBulk, bulkAllIs p]
  | .iface _ d => by simp only [Vs.bulk, Rows.uptoBulk, bulkIs d]
  | .map e => by simp only [Vs.bulk, Rows.uptoBulk, bulkEntriesIs e]
  | .held _ => by simp only [Vs.bulk, Rows.uptoBulk]
theorem bulkAllIs {H : Type} : ∀ l : List (DataW H), Vs.bulkAll l = Rows.uptoBulkAll l
  | [] => by simp only [Vs.bulkAll, Rows.uptoBulkAll]
  | d :: r => by simp only [Vs.bulkAll, Rows.uptoBulkAll, bulkIs d, bulkAllIs r]
theorem bulkEntriesIs {H : Type} : ∀ l : List (Lit × DataW H), Vs.bulkEntries l = Rows.uptoBulkEntries l
  | [] => by simp only [Vs.bulkEntries, Rows.uptoBulkEntries]
  | x :: r => by simp only [Vs.bulkEntries, Rows.uptoBulkEntries, bulkEntryIs x, bulkEntriesIs r]
theorem bulkEntryIs {H : Type} : ∀ x : Lit × DataW H, Vs.bulkEntry x = Rows.uptoBulkEntry x
  | (l, d) => by cases l <;> simp only [Vs.bulkEntry, Rows.uptoBulkEntry, bulkIs d]
end
theorem bulkSmall {H : Type} {l : List (DataW H)} (h : Rows.uptoSmall H l = true) : Vs.bulkAll l ≤ 1048576 := by
  rw [bulkAllIs]; simpa [Rows.uptoSmall] using h

theorem own : ownKnob Try.prog.godebug = none := by kernel_rfl
theorem laid : laidOutB Try.prog = true := by kernel_rfl
abbrev TP : Ty := .slice (.st (.pair (.int IntKind.i32) (.int IntKind.i32)))
abbrev TI : Ty := .slice (.int IntKind.i32)
theorem lenP (v : List (Int × Int)) : v.length ≤ bulkV TP v := by
  induction v with
  | nil => simp [bulkV]
  | cons x v ih => simp only [bulkV, sumN, List.length_cons] at ih ⊢; omega
theorem lenI (v : List Int) : v.length ≤ bulkV TI v := by
  induction v with
  | nil => simp [bulkV]
  | cons x v ih => simp only [bulkV, sumN, List.length_cons] at ih ⊢; omega

namespace rsetNorms
theorem told (v : PDen (roPs [TP, TP])) (h : bulkVs [TP, TP] v ≤ 1048576) : lNorms v.1 v.2.1 = some ((), (true, ())) := by
  have hb : bulkV TP v.1 + bulkV TP v.2.1 ≤ 1048576 := by simp only [bulkVs] at h; omega
  exact lNorms_is v.1 v.2.1 (by have := lenP v.1; omega) (by have := lenP v.2.1; omega)
theorem reads {H : Type} : ∀ ds : List (DataW H), ds.length = 2 → Rows.rsetNormsSpec.fn H ds = { results := [.lit (.bool true)], args := ds }
  | [d1, d2], _ => rfl
theorem contract (H : Type) (enc : TypeId × Value → H) (W : World) (base : Nat) (args : Array Value) (ds gs : List (DataW H)) (before : List MemPlace)
    (hval : ∀ (j : Nat) t v, Try.f3.params[j]? = some t → args[j]? = some v → Value.okWide Try.prog W .any base t v)
    (hW : DataW.Whole enc Try.prog Try.f3.params.toList Rows.rsetNormsSpec.vars false W args.toList ds gs before) (hk : Rows.uptoSmall H (ds ++ gs) = true) :
    Calls Try.prog 3 args W fun e W' => ∃ v, e = .returned v ∧ Rows.rsetNormsSpec.post enc Try.prog Try.f3 false true false false W args v W' :=
  law_calls (c := lNorms_c) (Ts := [TP, TP]) (ts := Try.f3.params.toList) (m := ()) (bt := 4) (N := 1048576) lNorms_ok (fun v _ hb => told v hb) laid rfl (by kernel_rfl) (by kernel_rfl) (by kernel_rfl) rfl (fun ds h => reads ds h) hval hW (bulkSmall hk)
theorem lifted (os : Os) (started : os.Started) (H : Type) (enc : TypeId × Value → H) (F : Stop.Interp) :
    ReturnsInHanded {} Try.checked os 3 .any ((Rows.OpenSpec.upto Rows.rsetNormsSpec).pre6 enc Try.prog Try.f3 Rows.rsetNormsUptoRow.domain false) (((Rows.OpenSpec.upto Rows.rsetNormsSpec).at F).post enc Try.prog Try.f3 false true false false) := by
  refine returnsInHanded_of_cond (C := Try.checked) (s := Rows.OpenSpec.upto Rows.rsetNormsSpec) (k := Rows.uptoSmall) rfl own started (by kernel_rfl) Try.func3
    (OpenSpec.witness (enc := enc) (C := Try.checked) (s := Rows.OpenSpec.upto Rows.rsetNormsSpec) (k := Rows.uptoSmall) rfl false ⟨#[], #[.slice none 0 0, .slice none 0 0], []⟩ 8 (by kernel_rfl) (by kernel_rfl) (by kernel_rfl)
      (x := ([.nil, .nil], [], [])) (by kernel_rfl) rfl (by kernel_rfl)) ?_
  intro W base args ds gs before hval hW _ hk _
  exact contract H enc W base args ds gs before hval hW hk
theorem over : Rows.rsetNormsUptoRow.holds Try.pinned (Rows.OpenSpec.upto Rows.rsetNormsSpec) :=
  OpenClaim.holds_of_cond 3 Try.f3 rfl rfl rfl rfl rfl rfl rfl ⟨rfl, rfl, rfl, rfl, rfl⟩ rfl rfl rfl rfl rfl (by kernel_rfl) Try.func3 (by kernel_rfl)
    (of_decide_eq_true (by kernel_rfl)) (by unfold Func.isWrapper; first | (rw [if_pos (by decide +kernel)]; kernel_rfl) | (rw [if_neg (by decide +kernel)]; exact ⟨rfl, rfl⟩))
    (fun os started H enc _ F => lifted os started H enc F)
theorem proved : Rows.RsetNormsUptoSaid :=
  over
end rsetNorms

namespace rsetOps
theorem told (v : PDen (roPs [TP, TP])) (h : bulkVs [TP, TP] v ≤ 1048576) : lOps v.1 v.2.1 = some ((), (true, ())) := by
  have hb : bulkV TP v.1 + bulkV TP v.2.1 ≤ 1048576 := by simp only [bulkVs] at h; omega
  exact lOps_is v.1 v.2.1 (by have := lenP v.1; omega) (by have := lenP v.2.1; omega)
theorem reads {H : Type} : ∀ ds : List (DataW H), ds.length = 2 → Rows.rsetOpsSpec.fn H ds = { results := [.lit (.bool true)], args := ds }
  | [d1, d2], _ => rfl
theorem contract (H : Type) (enc : TypeId × Value → H) (W : World) (base : Nat) (args : Array Value) (ds gs : List (DataW H)) (before : List MemPlace)
    (hval : ∀ (j : Nat) t v, Try.f4.params[j]? = some t → args[j]? = some v → Value.okWide Try.prog W .any base t v)
    (hW : DataW.Whole enc Try.prog Try.f4.params.toList Rows.rsetOpsSpec.vars false W args.toList ds gs before) (hk : Rows.uptoSmall H (ds ++ gs) = true) :
    Calls Try.prog 4 args W fun e W' => ∃ v, e = .returned v ∧ Rows.rsetOpsSpec.post enc Try.prog Try.f4 false true false false W args v W' :=
  law_calls (c := lOps_c) (Ts := [TP, TP]) (ts := Try.f4.params.toList) (m := ()) (bt := 4) (N := 1048576) lOps_ok (fun v _ hb => told v hb) laid rfl (by kernel_rfl) (by kernel_rfl) (by kernel_rfl) rfl (fun ds h => reads ds h) hval hW (bulkSmall hk)
theorem lifted (os : Os) (started : os.Started) (H : Type) (enc : TypeId × Value → H) (F : Stop.Interp) :
    ReturnsInHanded {} Try.checked os 4 .any ((Rows.OpenSpec.upto Rows.rsetOpsSpec).pre6 enc Try.prog Try.f4 Rows.rsetOpsUptoRow.domain false) (((Rows.OpenSpec.upto Rows.rsetOpsSpec).at F).post enc Try.prog Try.f4 false true false false) := by
  refine returnsInHanded_of_cond (C := Try.checked) (s := Rows.OpenSpec.upto Rows.rsetOpsSpec) (k := Rows.uptoSmall) rfl own started (by kernel_rfl) Try.func4
    (OpenSpec.witness (enc := enc) (C := Try.checked) (s := Rows.OpenSpec.upto Rows.rsetOpsSpec) (k := Rows.uptoSmall) rfl false ⟨#[], #[.slice none 0 0, .slice none 0 0], []⟩ 8 (by kernel_rfl) (by kernel_rfl) (by kernel_rfl)
      (x := ([.nil, .nil], [], [])) (by kernel_rfl) rfl (by kernel_rfl)) ?_
  intro W base args ds gs before hval hW _ hk _
  exact contract H enc W base args ds gs before hval hW hk
theorem over : Rows.rsetOpsUptoRow.holds Try.pinned (Rows.OpenSpec.upto Rows.rsetOpsSpec) :=
  OpenClaim.holds_of_cond 4 Try.f4 rfl rfl rfl rfl rfl rfl rfl ⟨rfl, rfl, rfl, rfl, rfl⟩ rfl rfl rfl rfl rfl (by kernel_rfl) Try.func4 (by kernel_rfl)
    (of_decide_eq_true (by kernel_rfl)) (by unfold Func.isWrapper; first | (rw [if_pos (by decide +kernel)]; kernel_rfl) | (rw [if_neg (by decide +kernel)]; exact ⟨rfl, rfl⟩))
    (fun os started H enc _ F => lifted os started H enc F)
theorem proved : Rows.RsetOpsUptoSaid :=
  over
end rsetOps

namespace rsetMembers
theorem told (v : PDen (roPs [TP, TP, TI])) (h : bulkVs [TP, TP, TI] v ≤ 1048576) : lMembers v.1 v.2.1 v.2.2.1 = some ((), (true, ())) := by
  have hb : bulkV TP v.1 + bulkV TP v.2.1 + bulkV TI v.2.2.1 ≤ 1048576 := by simp only [bulkVs] at h; omega
  exact lMembers_is v.1 v.2.1 v.2.2.1 (by have := lenP v.1; omega) (by have := lenP v.2.1; omega) (by have := lenI v.2.2.1; omega)
theorem reads {H : Type} : ∀ ds : List (DataW H), ds.length = 3 → Rows.rsetMembersSpec.fn H ds = { results := [.lit (.bool true)], args := ds }
  | [d1, d2, d3], _ => rfl
theorem contract (H : Type) (enc : TypeId × Value → H) (W : World) (base : Nat) (args : Array Value) (ds gs : List (DataW H)) (before : List MemPlace)
    (hval : ∀ (j : Nat) t v, Try.f5.params[j]? = some t → args[j]? = some v → Value.okWide Try.prog W .any base t v)
    (hW : DataW.Whole enc Try.prog Try.f5.params.toList Rows.rsetMembersSpec.vars false W args.toList ds gs before) (hk : Rows.uptoSmall H (ds ++ gs) = true) :
    Calls Try.prog 5 args W fun e W' => ∃ v, e = .returned v ∧ Rows.rsetMembersSpec.post enc Try.prog Try.f5 false true false false W args v W' :=
  law_calls (c := lMembers_c) (Ts := [TP, TP, TI]) (ts := Try.f5.params.toList) (m := ()) (bt := 4) (N := 1048576) lMembers_ok (fun v _ hb => told v hb) laid rfl (by kernel_rfl) (by kernel_rfl) (by kernel_rfl) rfl (fun ds h => reads ds h) hval hW (bulkSmall hk)
theorem lifted (os : Os) (started : os.Started) (H : Type) (enc : TypeId × Value → H) (F : Stop.Interp) :
    ReturnsInHanded {} Try.checked os 5 .any ((Rows.OpenSpec.upto Rows.rsetMembersSpec).pre6 enc Try.prog Try.f5 Rows.rsetMembersUptoRow.domain false) (((Rows.OpenSpec.upto Rows.rsetMembersSpec).at F).post enc Try.prog Try.f5 false true false false) := by
  refine returnsInHanded_of_cond (C := Try.checked) (s := Rows.OpenSpec.upto Rows.rsetMembersSpec) (k := Rows.uptoSmall) rfl own started (by kernel_rfl) Try.func5
    (OpenSpec.witness (enc := enc) (C := Try.checked) (s := Rows.OpenSpec.upto Rows.rsetMembersSpec) (k := Rows.uptoSmall) rfl false ⟨#[], #[.slice none 0 0, .slice none 0 0, .slice none 0 0], []⟩ 8 (by kernel_rfl) (by kernel_rfl) (by kernel_rfl)
      (x := ([.nil, .nil, .nil], [], [])) (by kernel_rfl) rfl (by kernel_rfl)) ?_
  intro W base args ds gs before hval hW _ hk _
  exact contract H enc W base args ds gs before hval hW hk
theorem over : Rows.rsetMembersUptoRow.holds Try.pinned (Rows.OpenSpec.upto Rows.rsetMembersSpec) :=
  OpenClaim.holds_of_cond 5 Try.f5 rfl rfl rfl rfl rfl rfl rfl ⟨rfl, rfl, rfl, rfl, rfl⟩ rfl rfl rfl rfl rfl (by kernel_rfl) Try.func5 (by kernel_rfl)
    (of_decide_eq_true (by kernel_rfl)) (by unfold Func.isWrapper; first | (rw [if_pos (by decide +kernel)]; kernel_rfl) | (rw [if_neg (by decide +kernel)]; exact ⟨rfl, rfl⟩))
    (fun os started H enc _ F => lifted os started H enc F)
theorem proved : Rows.RsetMembersUptoSaid :=
  over
end rsetMembers

namespace rsetAlgebra
theorem told (v : PDen (roPs [TP, TP, TP])) (h : bulkVs [TP, TP, TP] v ≤ 1048576) : lAlgebra v.1 v.2.1 v.2.2.1 = some ((), (true, ())) := by
  have hb : bulkV TP v.1 + bulkV TP v.2.1 + bulkV TP v.2.2.1 ≤ 1048576 := by simp only [bulkVs] at h; omega
  exact lAlgebra_is v.1 v.2.1 v.2.2.1 (by have := lenP v.1; omega) (by have := lenP v.2.1; omega) (by have := lenP v.2.2.1; omega)
theorem reads {H : Type} : ∀ ds : List (DataW H), ds.length = 3 → Rows.rsetAlgebraSpec.fn H ds = { results := [.lit (.bool true)], args := ds }
  | [d1, d2, d3], _ => rfl
theorem contract (H : Type) (enc : TypeId × Value → H) (W : World) (base : Nat) (args : Array Value) (ds gs : List (DataW H)) (before : List MemPlace)
    (hval : ∀ (j : Nat) t v, Try.f6.params[j]? = some t → args[j]? = some v → Value.okWide Try.prog W .any base t v)
    (hW : DataW.Whole enc Try.prog Try.f6.params.toList Rows.rsetAlgebraSpec.vars false W args.toList ds gs before) (hk : Rows.uptoSmall H (ds ++ gs) = true) :
    Calls Try.prog 6 args W fun e W' => ∃ v, e = .returned v ∧ Rows.rsetAlgebraSpec.post enc Try.prog Try.f6 false true false false W args v W' :=
  law_calls (c := lAlgebra_c) (Ts := [TP, TP, TP]) (ts := Try.f6.params.toList) (m := ()) (bt := 4) (N := 1048576) lAlgebra_ok (fun v _ hb => told v hb) laid rfl (by kernel_rfl) (by kernel_rfl) (by kernel_rfl) rfl (fun ds h => reads ds h) hval hW (bulkSmall hk)
theorem lifted (os : Os) (started : os.Started) (H : Type) (enc : TypeId × Value → H) (F : Stop.Interp) :
    ReturnsInHanded {} Try.checked os 6 .any ((Rows.OpenSpec.upto Rows.rsetAlgebraSpec).pre6 enc Try.prog Try.f6 Rows.rsetAlgebraUptoRow.domain false) (((Rows.OpenSpec.upto Rows.rsetAlgebraSpec).at F).post enc Try.prog Try.f6 false true false false) := by
  refine returnsInHanded_of_cond (C := Try.checked) (s := Rows.OpenSpec.upto Rows.rsetAlgebraSpec) (k := Rows.uptoSmall) rfl own started (by kernel_rfl) Try.func6
    (OpenSpec.witness (enc := enc) (C := Try.checked) (s := Rows.OpenSpec.upto Rows.rsetAlgebraSpec) (k := Rows.uptoSmall) rfl false ⟨#[], #[.slice none 0 0, .slice none 0 0, .slice none 0 0], []⟩ 8 (by kernel_rfl) (by kernel_rfl) (by kernel_rfl)
      (x := ([.nil, .nil, .nil], [], [])) (by kernel_rfl) rfl (by kernel_rfl)) ?_
  intro W base args ds gs before hval hW _ hk _
  exact contract H enc W base args ds gs before hval hW hk
theorem over : Rows.rsetAlgebraUptoRow.holds Try.pinned (Rows.OpenSpec.upto Rows.rsetAlgebraSpec) :=
  OpenClaim.holds_of_cond 6 Try.f6 rfl rfl rfl rfl rfl rfl rfl ⟨rfl, rfl, rfl, rfl, rfl⟩ rfl rfl rfl rfl rfl (by kernel_rfl) Try.func6 (by kernel_rfl)
    (of_decide_eq_true (by kernel_rfl)) (by unfold Func.isWrapper; first | (rw [if_pos (by decide +kernel)]; kernel_rfl) | (rw [if_neg (by decide +kernel)]; exact ⟨rfl, rfl⟩))
    (fun os started H enc _ F => lifted os started H enc F)
theorem proved : Rows.RsetAlgebraUptoSaid :=
  over
end rsetAlgebra

namespace rsetPoints
theorem told (v : PDen (roPs [TI, TI])) (h : bulkVs [TI, TI] v ≤ 1048576) : lPoints v.1 v.2.1 = some ((), (true, ())) := by
  have hb : bulkV TI v.1 + bulkV TI v.2.1 ≤ 1048576 := by simp only [bulkVs] at h; omega
  exact lPoints_is v.1 v.2.1 (by have := lenI v.1; omega) (by have := lenI v.2.1; omega)
theorem reads {H : Type} : ∀ ds : List (DataW H), ds.length = 2 → Rows.rsetPointsSpec.fn H ds = { results := [.lit (.bool true)], args := ds }
  | [d1, d2], _ => rfl
theorem contract (H : Type) (enc : TypeId × Value → H) (W : World) (base : Nat) (args : Array Value) (ds gs : List (DataW H)) (before : List MemPlace)
    (hval : ∀ (j : Nat) t v, Try.f9.params[j]? = some t → args[j]? = some v → Value.okWide Try.prog W .any base t v)
    (hW : DataW.Whole enc Try.prog Try.f9.params.toList Rows.rsetPointsSpec.vars false W args.toList ds gs before) (hk : Rows.uptoSmall H (ds ++ gs) = true) :
    Calls Try.prog 9 args W fun e W' => ∃ v, e = .returned v ∧ Rows.rsetPointsSpec.post enc Try.prog Try.f9 false true false false W args v W' :=
  law_calls (c := lPoints_c) (Ts := [TI, TI]) (ts := Try.f9.params.toList) (m := ()) (bt := 4) (N := 1048576) lPoints_ok (fun v _ hb => told v hb) laid rfl (by kernel_rfl) (by kernel_rfl) (by kernel_rfl) rfl (fun ds h => reads ds h) hval hW (bulkSmall hk)
theorem lifted (os : Os) (started : os.Started) (H : Type) (enc : TypeId × Value → H) (F : Stop.Interp) :
    ReturnsInHanded {} Try.checked os 9 .any ((Rows.OpenSpec.upto Rows.rsetPointsSpec).pre6 enc Try.prog Try.f9 Rows.rsetPointsUptoRow.domain false) (((Rows.OpenSpec.upto Rows.rsetPointsSpec).at F).post enc Try.prog Try.f9 false true false false) := by
  refine returnsInHanded_of_cond (C := Try.checked) (s := Rows.OpenSpec.upto Rows.rsetPointsSpec) (k := Rows.uptoSmall) rfl own started (by kernel_rfl) Try.func9
    (OpenSpec.witness (enc := enc) (C := Try.checked) (s := Rows.OpenSpec.upto Rows.rsetPointsSpec) (k := Rows.uptoSmall) rfl false ⟨#[], #[.slice none 0 0, .slice none 0 0], []⟩ 8 (by kernel_rfl) (by kernel_rfl) (by kernel_rfl)
      (x := ([.nil, .nil], [], [])) (by kernel_rfl) rfl (by kernel_rfl)) ?_
  intro W base args ds gs before hval hW _ hk _
  exact contract H enc W base args ds gs before hval hW hk
theorem over : Rows.rsetPointsUptoRow.holds Try.pinned (Rows.OpenSpec.upto Rows.rsetPointsSpec) :=
  OpenClaim.holds_of_cond 9 Try.f9 rfl rfl rfl rfl rfl rfl rfl ⟨rfl, rfl, rfl, rfl, rfl⟩ rfl rfl rfl rfl rfl (by kernel_rfl) Try.func9 (by kernel_rfl)
    (of_decide_eq_true (by kernel_rfl)) (by unfold Func.isWrapper; first | (rw [if_pos (by decide +kernel)]; kernel_rfl) | (rw [if_neg (by decide +kernel)]; exact ⟨rfl, rfl⟩))
    (fun os started H enc _ F => lifted os started H enc F)
theorem proved : Rows.RsetPointsUptoSaid :=
  over
end rsetPoints
end Go.Proofs.Ytfklhbmicfammaa
