/- The laws: each returns true where what it reads is of bulk at most 1048576, and leaves the rest as it was. -/
import Derived.Test.YtfklhbmicfammaaRows
import Derived.Test.YtfklhbmicfammaaVsRs2
import Derived.Test.YtfklhbmicfammaaVsRm13
import Derived.Test.YtfklhbmicfammaaVsRow
set_option linter.unusedVariables false
set_option maxRecDepth 100000
namespace Go.Proofs.Ytfklhbmicfammaa
open Go Go.Vs Go.Vs.Rs Go.ChangeShapes Go.WideShapes Go.ChangeAt Go.RowKit

mutual
theorem bulkIs {H : Type} : ∀ d : DataW H, Vs.bulk d = Rows.uptoBulk d
  | .lit l => by cases l <;> simp only [Vs.bulk, Rows.uptoBulk]
  | .nil => by simp only [Vs.bulk, Rows.uptoBulk]
  | .ptr d => by simp only [Vs.bulk, Rows.uptoBulk, bulkIs d]
  | .slice e s => by simp only [Vs.bulk, Rows.uptoBulk, bulkAllIs e, bulkAllIs s]
  | .agg p => by simp only [Vs.bulk, Rows.uptoBulk, bulkAllIs p]
  | .iface _ d => by simp only [Vs.bulk, Rows.uptoBulk, bulkIs d]
  | .map e => by simp only [Vs.bulk, Rows.uptoBulk, bulkEntriesIs e]
  | .held _ => by simp only [Vs.bulk, Rows.uptoBulk]
theorem bulkAllIs {H : Type} : ∀ l : List (DataW H), Vs.bulkAll l = Rows.uptoBulkAll l
  | [] => by simp only [Vs.bulkAll, Rows.uptoBulkAll]
  | d :: r => by simp only [Vs.bulkAll, Rows.uptoBulkAll, bulkIs d, bulkAllIs r]
theorem bulkEntriesIs {H : Type} : ∀ l : List (Lit × DataW H), Vs.bulkEntries l = Rows.uptoBulkEntries l
  | [] => by simp only [Vs.bulkEntries, Rows.uptoBulkEntries]
  | x :: r => by simp only [Vs.bulkEntries, Rows.uptoBulkEntries, bulkEntryIs x, bulkEntriesIs r]
theorem bulkEntryIs {H : Type} : ∀ x : Lit × DataW H, Vs.bulkEntry x = Rows.uptoBulkEntry x
  | (l, d) => by cases l <;> simp only [Vs.bulkEntry, Rows.uptoBulkEntry, bulkIs d]
end
theorem bulkSmall {H : Type} {l : List (DataW H)} (h : Rows.uptoSmall H l = true) : Vs.bulkAll l ≤ 1048576 := by
  rw [bulkAllIs]; simpa [Rows.uptoSmall] using h

theorem own : ownKnob Try.prog.godebug = none := by kernel_rfl
theorem laid : laidOutB Try.prog = true := by kernel_rfl
abbrev TP : Ty := .slice (.st (.pair (.int IntKind.i32) (.int IntKind.i32)))
abbrev TI : Ty := .slice (.int IntKind.i32)
theorem lenP (v : List (Int × Int)) : v.length ≤ bulkV TP v := by
  induction v with
  | nil => simp [bulkV]
  | cons x v ih => simp only [bulkV, sumN, List.length_cons] at ih ⊢; omega
theorem lenI (v : List Int) : v.length ≤ bulkV TI v := by
  induction v with
  | nil => simp [bulkV]
  | cons x v ih => simp only [bulkV, sumN, List.length_cons] at ih ⊢; omega
theorem fitsP (v : List (Int × Int)) (h : fits TP v) : ∀ r ∈ v, -2147483648 ≤ r.1 ∧ r.2 ≤ 2147483647 := by
  intro r hr
  obtain ⟨h1, h2⟩ := h r hr
  simp [fits, okI, IntKind.min, IntKind.max, IntKind.signed, IntKind.bits] at h1 h2
  omega

namespace rsetKeeps
theorem told (v : PDen (roPs [TP, TP])) (hf : fitsAll [TP, TP] v) (h : bulkVs [TP, TP] v ≤ 1048576) : lKeeps v.1 v.2.1 = some ((), (true, ())) := by
  have hb : bulkV TP v.1 + bulkV TP v.2.1 ≤ 1048576 := by simp only [bulkVs] at h; omega
  exact lKeeps_is v.1 v.2.1 (by have := lenP v.1; omega) (by have := lenP v.2.1; omega)
theorem reads {H : Type} : ∀ ds : List (DataW H), ds.length = 2 → Rows.rsetKeepsSpec.fn H ds = { results := [.lit (.bool true)], args := ds }
  | [d1, d2], _ => rfl
theorem contract (H : Type) (enc : TypeId × Value → H) (W : World) (base : Nat) (args : Array Value) (ds gs : List (DataW H)) (before : List MemPlace)
    (hval : ∀ (j : Nat) t v, Try.f7.params[j]? = some t → args[j]? = some v → Value.okWide Try.prog W .any base t v)
    (hW : DataW.Whole enc Try.prog Try.f7.params.toList Rows.rsetKeepsSpec.vars false W args.toList ds gs before) (hk : Rows.uptoSmall H (ds ++ gs) = true) :
    Calls Try.prog 7 args W fun e W' => ∃ v, e = .returned v ∧ Rows.rsetKeepsSpec.post enc Try.prog Try.f7 false true false false W args v W' :=
  law_calls (c := lKeeps_c) (Ts := [TP, TP]) (ts := Try.f7.params.toList) (m := ()) (bt := 4) (N := 1048576) lKeeps_ok (fun v hf hb => told v hf hb) laid rfl (by kernel_rfl) (by kernel_rfl) (by kernel_rfl) rfl (fun ds h => reads ds h) hval hW (bulkSmall hk)
theorem lifted (os : Os) (started : os.Started) (H : Type) (enc : TypeId × Value → H) (F : Stop.Interp) :
    ReturnsInHanded {} Try.checked os 7 .any ((Rows.OpenSpec.upto Rows.rsetKeepsSpec).pre6 enc Try.prog Try.f7 Rows.rsetKeepsUptoRow.domain false) (((Rows.OpenSpec.upto Rows.rsetKeepsSpec).at F).post enc Try.prog Try.f7 false true false false) := by
  refine returnsInHanded_of_cond (C := Try.checked) (s := Rows.OpenSpec.upto Rows.rsetKeepsSpec) (k := Rows.uptoSmall) rfl own started (by kernel_rfl) Try.func7
    (OpenSpec.witness (enc := enc) (C := Try.checked) (s := Rows.OpenSpec.upto Rows.rsetKeepsSpec) (k := Rows.uptoSmall) rfl false ⟨#[], #[.slice none 0 0, .slice none 0 0], []⟩ 8 (by kernel_rfl) (by kernel_rfl) (by kernel_rfl)
      (x := ([.nil, .nil], [], [])) (by kernel_rfl) rfl (by kernel_rfl)) ?_
  intro W base args ds gs before hval hW _ hk _
  exact contract H enc W base args ds gs before hval hW hk
theorem over : Rows.rsetKeepsUptoRow.holds Try.pinned (Rows.OpenSpec.upto Rows.rsetKeepsSpec) :=
  OpenClaim.holds_of_cond 7 Try.f7 rfl rfl rfl rfl rfl rfl rfl ⟨rfl, rfl, rfl, rfl, rfl⟩ rfl rfl rfl rfl rfl (by kernel_rfl) Try.func7 (by kernel_rfl)
    (of_decide_eq_true (by kernel_rfl)) (by unfold Func.isWrapper; first | (rw [if_pos (by decide +kernel)]; kernel_rfl) | (rw [if_neg (by decide +kernel)]; exact ⟨rfl, rfl⟩))
    (fun os started H enc _ F => lifted os started H enc F)
theorem proved : Rows.RsetKeepsUptoSaid :=
  over
end rsetKeeps
end Go.Proofs.Ytfklhbmicfammaa
