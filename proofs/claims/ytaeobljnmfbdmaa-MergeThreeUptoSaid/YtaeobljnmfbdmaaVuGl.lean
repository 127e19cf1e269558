/- The laws: each returns true where what it reads is of bulk at most 1048576, and leaves the rest as it was. -/
import Derived.Test.YtaeobljnmfbdmaaRows
import Derived.Test.YtaeobljnmfbdmaaVuMg2
import Derived.Test.YtaeobljnmfbdmaaVuMm
import Derived.Test.YtaeobljnmfbdmaaVuRow
set_option linter.unusedVariables false
set_option maxRecDepth 100000
namespace Go.Proofs.Ytaeobljnmfbdmaa
open Go Go.Vu Go.Vu.Mg Go.ChangeShapes Go.WideShapes Go.ChangeAt Go.RowKit
mutual
theorem bulkIs {H : Type} : ∀ d : DataW H, Vu.bulk d = Rows.uptoBulk d
 | .lit l => by cases l <;> simp only [Vu.bulk, Rows.uptoBulk]
 | .nil => by simp only [Vu.bulk, Rows.uptoBulk]
 | .ptr d => by simp only [Vu.bulk, Rows.uptoBulk, bulkIs d]
 | .slice e s => by simp only [Vu.bulk, Rows.uptoBulk, bulkAllIs e, bulkAllIs s]
 | .agg p => by simp only [Vu.bulk, Rows.uptoBulk, bulkAllIs p]
 | .iface _ d => by simp only [Vu.bulk, Rows.uptoBulk, bulkIs d]
 | .map e => by simp only [Vu.bulk, Rows.uptoBulk, bulkEntriesIs e]
 | .held _ => by simp only [Vu.bulk, Rows.uptoBulk]
theorem bulkAllIs {H : Type} : ∀ l : List (DataW H), Vu.bulkAll l = Rows.uptoBulkAll l
 | [] => by simp only [Vu.bulkAll, Rows.uptoBulkAll]
 | d :: r => by simp only [Vu.bulkAll, Rows.uptoBulkAll, bulkIs d, bulkAllIs r]
theorem bulkEntriesIs {H : Type} : ∀ l : List (Lit × DataW H), Vu.bulkEntries l = Rows.uptoBulkEntries l
 | [] => by simp only [Vu.bulkEntries, Rows.uptoBulkEntries]
 | x :: r => by simp only [Vu.bulkEntries, Rows.uptoBulkEntries, bulkEntryIs x, bulkEntriesIs r]
theorem bulkEntryIs {H : Type} : ∀ x : Lit × DataW H, Vu.bulkEntry x = Rows.uptoBulkEntry x
 | (l, d) => by cases l <;> simp only [Vu.bulkEntry, Rows.uptoBulkEntry, bulkIs d]
end
theorem bulkSmall {H : Type} {l : List (DataW H)} (h : Rows.uptoSmall H l = true) : Vu.bulkAll l ≤ 1048576 := by
 rw [bulkAllIs]; simpa [Rows.uptoSmall] using h
theorem own : ownKnob Try.prog.godebug = none := by kernel_rfl
theorem laid : laidOutB Try.prog = true := by kernel_rfl
abbrev TL : Ty := .slice (.st (.pair (.int IntKind.i64) (.slice (.int IntKind.i64))))
abbrev TK : Ty := .slice TL
theorem sumOne : ∀ l : List Int, sumN (bulkV (.int IntKind.i64)) l = l.length
 | [] => rfl
 | x :: l => by
  have := sumOne l
  simp only [sumN, List.length_cons, this]
  show 1 + l.length = l.length + 1
  omega
theorem lenL : ∀ v : List Pst, v.length + cnL v ≤ bulkV TL v
 | [] => by simp [cnL]
 | x :: v => by
  have ih := lenL v
  have e : bulkV TL (x :: v) = ((1 + (sumN (bulkV (.int IntKind.i64)) x.2 + 1)) + 1) + bulkV TL v := by
   show (((1 + (sumN (bulkV (.int IntKind.i64)) x.2 + 1)) + 1) + sumN _ v) + 1 = _
   rw [show bulkV TL v = sumN (bulkV (.st (.pair (.int IntKind.i64) (.slice (.int IntKind.i64))))) v + 1 from rfl]
   omega
  rw [e, sumOne]
  simp only [cnL, List.length_cons, List.map_cons, List.sum_cons] at ih ⊢
  omega
theorem lenK : ∀ v : List (List Pst), v.length ≤ bulkV TK v ∧ ∀ l ∈ v, bulkV TL l ≤ bulkV TK v
 | [] => ⟨by simp, fun l h => by cases h⟩
 | x :: v => by
  obtain ⟨h1, h2⟩ := lenK v
  have e : bulkV TK (x :: v) = bulkV TL x + bulkV TK v := by
   show (bulkV TL x + sumN (bulkV TL) v) + 1 = _
   rw [show bulkV TK v = sumN (bulkV TL) v + 1 from rfl]
   omega
  have hx : 1 ≤ bulkV TL x := by
   show 1 ≤ sumN _ x + 1
   omega
  rw [e]
  refine ⟨by simp only [List.length_cons]; omega, fun l hl => ?_⟩
  rcases List.mem_cons.1 hl with rfl | hl
  ·omega
  ·have := h2 l hl; omega
theorem fitL {v : List Pst} (h : fits TL v) : Fit v := fun p hp n hn => by
 have h1 : fits (.int IntKind.i64) n := (h p hp).2 n hn
 have h2 : okI IntKind.i64 n := h1
 unfold okI at h2
 simp at h2
 omega
namespace mergeOps
theorem told (v : PDen (roPs [TL, TL])) (hf : fitsAll [TL, TL] v) (h : bulkVs [TL, TL] v ≤ 1048576) : lOps v.1 v.2.1 = some ((), (true, ())) := by
 have hb : bulkV TL v.1 + bulkV TL v.2.1 ≤ 1048576 := by simp only [bulkVs] at h; omega
 have h1 := lenL v.1; have h2 := lenL v.2.1
 exact lOps_is v.1 v.2.1 (by omega) (by omega)
theorem reads {H : Type} : ∀ ds : List (DataW H), ds.length = 2 → Rows.mergeOpsSpec.fn H ds = { results := [.lit (.bool true)], args := ds }
 | [d1, d2], _ => rfl
theorem contract (H : Type) (enc : TypeId × Value → H) (W : World) (base : Nat) (args : Array Value) (ds gs : List (DataW H)) (before : List MemPlace)
  (hval : ∀ (j : Nat) t v, Try.f3.params[j]? = some t → args[j]? = some v → Value.okWide Try.prog W .any base t v)
  (hW : DataW.Whole enc Try.prog Try.f3.params.toList Rows.mergeOpsSpec.vars false W args.toList ds gs before) (hk : Rows.uptoSmall H (ds ++ gs) = true) :
  Calls Try.prog 3 args W fun e W' => ∃ v, e = .returned v ∧ Rows.mergeOpsSpec.post enc Try.prog Try.f3 false true false false W args v W' :=
 law_calls (c := lOps_c) (Ts := [TL, TL]) (ts := Try.f3.params.toList) (m := ()) (bt := 4) (N := 1048576) lOps_ok (fun v hf hb => told v hf hb) laid rfl (by kernel_rfl) (by kernel_rfl) (by kernel_rfl) rfl (fun ds h => reads ds h) hval hW (bulkSmall hk)
theorem lifted (os : Os) (started : os.Started) (H : Type) (enc : TypeId × Value → H) (F : Stop.Interp) :
  ReturnsInHanded {} Try.checked os 3 .any ((Rows.OpenSpec.upto Rows.mergeOpsSpec).pre6 enc Try.prog Try.f3 Rows.mergeOpsUptoRow.domain false) (((Rows.OpenSpec.upto Rows.mergeOpsSpec).at F).post enc Try.prog Try.f3 false true false false) := by
 refine returnsInHanded_of_cond (C := Try.checked) (s := Rows.OpenSpec.upto Rows.mergeOpsSpec) (k := Rows.uptoSmall) rfl own started (by kernel_rfl) Try.func3
  (OpenSpec.witness (enc := enc) (C := Try.checked) (s := Rows.OpenSpec.upto Rows.mergeOpsSpec) (k := Rows.uptoSmall) rfl false ⟨#[], #[.slice none 0 0, .slice none 0 0], []⟩ 8 (by kernel_rfl) (by kernel_rfl) (by kernel_rfl)
   (x := ([.nil, .nil], [], [])) (by kernel_rfl) rfl (by kernel_rfl)) ?_
 intro W base args ds gs before hval hW _ hk _
 exact contract H enc W base args ds gs before hval hW hk
theorem over : Rows.mergeOpsUptoRow.holds Try.pinned (Rows.OpenSpec.upto Rows.mergeOpsSpec) :=
 OpenClaim.holds_of_cond 3 Try.f3 rfl rfl rfl rfl rfl rfl rfl ⟨rfl, rfl, rfl, rfl, rfl⟩ rfl rfl rfl rfl rfl (by kernel_rfl) Try.func3 (by kernel_rfl)
  (of_decide_eq_true (by kernel_rfl)) (by unfold Func.isWrapper; first | (rw [if_pos (by decide +kernel)]; kernel_rfl) | (rw [if_neg (by decide +kernel)]; exact ⟨rfl, rfl⟩))
  (fun os started H enc _ F => lifted os started H enc F)
theorem proved : Rows.MergeOpsUptoSaid :=
 over
end mergeOps
namespace mergePhrases
theorem told (v : PDen (roPs [TK])) (hf : fitsAll [TK] v) (h : bulkVs [TK] v ≤ 1048576) : lPhrases v.1 = some ((), (true, ())) := by
 have hb : bulkV TK v.1 ≤ 1048576 := by simp only [bulkVs] at h; omega
 obtain ⟨h1, h2⟩ := lenK v.1
 exact lPhrases_is v.1 (by omega) (fun l hl => by have := h2 l hl; have := lenL l; exact ⟨by omega, by omega⟩) (fun l hl => fitL (hf.1 l hl))
theorem reads {H : Type} : ∀ ds : List (DataW H), ds.length = 1 → Rows.mergePhrasesSpec.fn H ds = { results := [.lit (.bool true)], args := ds }
 | [d1], _ => rfl
theorem contract (H : Type) (enc : TypeId × Value → H) (W : World) (base : Nat) (args : Array Value) (ds gs : List (DataW H)) (before : List MemPlace)
  (hval : ∀ (j : Nat) t v, Try.f4.params[j]? = some t → args[j]? = some v → Value.okWide Try.prog W .any base t v)
  (hW : DataW.Whole enc Try.prog Try.f4.params.toList Rows.mergePhrasesSpec.vars false W args.toList ds gs before) (hk : Rows.uptoSmall H (ds ++ gs) = true) :
  Calls Try.prog 4 args W fun e W' => ∃ v, e = .returned v ∧ Rows.mergePhrasesSpec.post enc Try.prog Try.f4 false true false false W args v W' :=
 law_calls (c := lPhrases_c) (Ts := [TK]) (ts := Try.f4.params.toList) (m := ()) (bt := 4) (N := 1048576) lPhrases_ok (fun v hf hb => told v hf hb) laid rfl (by kernel_rfl) (by kernel_rfl) (by kernel_rfl) rfl (fun ds h => reads ds h) hval hW (bulkSmall hk)
theorem lifted (os : Os) (started : os.Started) (H : Type) (enc : TypeId × Value → H) (F : Stop.Interp) :
  ReturnsInHanded {} Try.checked os 4 .any ((Rows.OpenSpec.upto Rows.mergePhrasesSpec).pre6 enc Try.prog Try.f4 Rows.mergePhrasesUptoRow.domain false) (((Rows.OpenSpec.upto Rows.mergePhrasesSpec).at F).post enc Try.prog Try.f4 false true false false) := by
 refine returnsInHanded_of_cond (C := Try.checked) (s := Rows.OpenSpec.upto Rows.mergePhrasesSpec) (k := Rows.uptoSmall) rfl own started (by kernel_rfl) Try.func4
  (OpenSpec.witness (enc := enc) (C := Try.checked) (s := Rows.OpenSpec.upto Rows.mergePhrasesSpec) (k := Rows.uptoSmall) rfl false ⟨#[], #[.slice none 0 0], []⟩ 8 (by kernel_rfl) (by kernel_rfl) (by kernel_rfl)
   (x := ([.nil], [], [])) (by kernel_rfl) rfl (by kernel_rfl)) ?_
 intro W base args ds gs before hval hW _ hk _
 exact contract H enc W base args ds gs before hval hW hk
theorem over : Rows.mergePhrasesUptoRow.holds Try.pinned (Rows.OpenSpec.upto Rows.mergePhrasesSpec) :=
 OpenClaim.holds_of_cond 4 Try.f4 rfl rfl rfl rfl rfl rfl rfl ⟨rfl, rfl, rfl, rfl, rfl⟩ rfl rfl rfl rfl rfl (by kernel_rfl) Try.func4 (by kernel_rfl)
  (of_decide_eq_true (by kernel_rfl)) (by unfold Func.isWrapper; first | (rw [if_pos (by decide +kernel)]; kernel_rfl) | (rw [if_neg (by decide +kernel)]; exact ⟨rfl, rfl⟩))
  (fun os started H enc _ F => lifted os started H enc F)
theorem proved : Rows.MergePhrasesUptoSaid :=
 over
end mergePhrases
namespace mergeAlgebra
theorem told (v : PDen (roPs [TL, TL])) (hf : fitsAll [TL, TL] v) (h : bulkVs [TL, TL] v ≤ 1048576) : lAlgebra v.1 v.2.1 = some ((), (true, ())) := by
 have hb : bulkV TL v.1 + bulkV TL v.2.1 ≤ 1048576 := by simp only [bulkVs] at h; omega
 have h1 := lenL v.1; have h2 := lenL v.2.1
 exact lAlgebra_is v.1 v.2.1 (by omega) (by omega)
theorem reads {H : Type} : ∀ ds : List (DataW H), ds.length = 2 → Rows.mergeAlgebraSpec.fn H ds = { results := [.lit (.bool true)], args := ds }
 | [d1, d2], _ => rfl
theorem contract (H : Type) (enc : TypeId × Value → H) (W : World) (base : Nat) (args : Array Value) (ds gs : List (DataW H)) (before : List MemPlace)
  (hval : ∀ (j : Nat) t v, Try.f5.params[j]? = some t → args[j]? = some v → Value.okWide Try.prog W .any base t v)
  (hW : DataW.Whole enc Try.prog Try.f5.params.toList Rows.mergeAlgebraSpec.vars false W args.toList ds gs before) (hk : Rows.uptoSmall H (ds ++ gs) = true) :
  Calls Try.prog 5 args W fun e W' => ∃ v, e = .returned v ∧ Rows.mergeAlgebraSpec.post enc Try.prog Try.f5 false true false false W args v W' :=
 law_calls (c := lAlgebra_c) (Ts := [TL, TL]) (ts := Try.f5.params.toList) (m := ()) (bt := 4) (N := 1048576) lAlgebra_ok (fun v hf hb => told v hf hb) laid rfl (by kernel_rfl) (by kernel_rfl) (by kernel_rfl) rfl (fun ds h => reads ds h) hval hW (bulkSmall hk)
theorem lifted (os : Os) (started : os.Started) (H : Type) (enc : TypeId × Value → H) (F : Stop.Interp) :
  ReturnsInHanded {} Try.checked os 5 .any ((Rows.OpenSpec.upto Rows.mergeAlgebraSpec).pre6 enc Try.prog Try.f5 Rows.mergeAlgebraUptoRow.domain false) (((Rows.OpenSpec.upto Rows.mergeAlgebraSpec).at F).post enc Try.prog Try.f5 false true false false) := by
 refine returnsInHanded_of_cond (C := Try.checked) (s := Rows.OpenSpec.upto Rows.mergeAlgebraSpec) (k := Rows.uptoSmall) rfl own started (by kernel_rfl) Try.func5
  (OpenSpec.witness (enc := enc) (C := Try.checked) (s := Rows.OpenSpec.upto Rows.mergeAlgebraSpec) (k := Rows.uptoSmall) rfl false ⟨#[], #[.slice none 0 0, .slice none 0 0], []⟩ 8 (by kernel_rfl) (by kernel_rfl) (by kernel_rfl)
   (x := ([.nil, .nil], [], [])) (by kernel_rfl) rfl (by kernel_rfl)) ?_
 intro W base args ds gs before hval hW _ hk _
 exact contract H enc W base args ds gs before hval hW hk
theorem over : Rows.mergeAlgebraUptoRow.holds Try.pinned (Rows.OpenSpec.upto Rows.mergeAlgebraSpec) :=
 OpenClaim.holds_of_cond 5 Try.f5 rfl rfl rfl rfl rfl rfl rfl ⟨rfl, rfl, rfl, rfl, rfl⟩ rfl rfl rfl rfl rfl (by kernel_rfl) Try.func5 (by kernel_rfl)
  (of_decide_eq_true (by kernel_rfl)) (by unfold Func.isWrapper; first | (rw [if_pos (by decide +kernel)]; kernel_rfl) | (rw [if_neg (by decide +kernel)]; exact ⟨rfl, rfl⟩))
  (fun os started H enc _ F => lifted os started H enc F)
theorem proved : Rows.MergeAlgebraUptoSaid :=
 over
end mergeAlgebra
namespace mergeThree
theorem told (v : PDen (roPs [TL, TL, TL])) (hf : fitsAll [TL, TL, TL] v) (h : bulkVs [TL, TL, TL] v ≤ 1048576) : lThree v.1 v.2.1 v.2.2.1 = some ((), (true, ())) := by
 have hb : bulkV TL v.1 + bulkV TL v.2.1 + bulkV TL v.2.2.1 ≤ 1048576 := by simp only [bulkVs] at h; omega
 have h1 := lenL v.1; have h2 := lenL v.2.1; have h3 := lenL v.2.2.1
 exact lThree_is v.1 v.2.1 v.2.2.1 (by omega) (by omega)
theorem reads {H : Type} : ∀ ds : List (DataW H), ds.length = 3 → Rows.mergeThreeSpec.fn H ds = { results := [.lit (.bool true)], args := ds }
 | [d1, d2, d3], _ => rfl
theorem contract (H : Type) (enc : TypeId × Value → H) (W : World) (base : Nat) (args : Array Value) (ds gs : List (DataW H)) (before : List MemPlace)
  (hval : ∀ (j : Nat) t v, Try.f7.params[j]? = some t → args[j]? = some v → Value.okWide Try.prog W .any base t v)
  (hW : DataW.Whole enc Try.prog Try.f7.params.toList Rows.mergeThreeSpec.vars false W args.toList ds gs before) (hk : Rows.uptoSmall H (ds ++ gs) = true) :
  Calls Try.prog 7 args W fun e W' => ∃ v, e = .returned v ∧ Rows.mergeThreeSpec.post enc Try.prog Try.f7 false true false false W args v W' :=
 law_calls (c := lThree_c) (Ts := [TL, TL, TL]) (ts := Try.f7.params.toList) (m := ()) (bt := 4) (N := 1048576) lThree_ok (fun v hf hb => told v hf hb) laid rfl (by kernel_rfl) (by kernel_rfl) (by kernel_rfl) rfl (fun ds h => reads ds h) hval hW (bulkSmall hk)
theorem lifted (os : Os) (started : os.Started) (H : Type) (enc : TypeId × Value → H) (F : Stop.Interp) :
  ReturnsInHanded {} Try.checked os 7 .any ((Rows.OpenSpec.upto Rows.mergeThreeSpec).pre6 enc Try.prog Try.f7 Rows.mergeThreeUptoRow.domain false) (((Rows.OpenSpec.upto Rows.mergeThreeSpec).at F).post enc Try.prog Try.f7 false true false false) := by
 refine returnsInHanded_of_cond (C := Try.checked) (s := Rows.OpenSpec.upto Rows.mergeThreeSpec) (k := Rows.uptoSmall) rfl own started (by kernel_rfl) Try.func7
  (OpenSpec.witness (enc := enc) (C := Try.checked) (s := Rows.OpenSpec.upto Rows.mergeThreeSpec) (k := Rows.uptoSmall) rfl false ⟨#[], #[.slice none 0 0, .slice none 0 0, .slice none 0 0], []⟩ 8 (by kernel_rfl) (by kernel_rfl) (by kernel_rfl)
   (x := ([.nil, .nil, .nil], [], [])) (by kernel_rfl) rfl (by kernel_rfl)) ?_
 intro W base args ds gs before hval hW _ hk _
 exact contract H enc W base args ds gs before hval hW hk
theorem over : Rows.mergeThreeUptoRow.holds Try.pinned (Rows.OpenSpec.upto Rows.mergeThreeSpec) :=
 OpenClaim.holds_of_cond 7 Try.f7 rfl rfl rfl rfl rfl rfl rfl ⟨rfl, rfl, rfl, rfl, rfl⟩ rfl rfl rfl rfl rfl (by kernel_rfl) Try.func7 (by kernel_rfl)
  (of_decide_eq_true (by kernel_rfl)) (by unfold Func.isWrapper; first | (rw [if_pos (by decide +kernel)]; kernel_rfl) | (rw [if_neg (by decide +kernel)]; exact ⟨rfl, rfl⟩))
  (fun os started H enc _ F => lifted os started H enc F)
theorem proved : Rows.MergeThreeUptoSaid :=
 over
end mergeThree
end Go.Proofs.Ytaeobljnmfbdmaa
