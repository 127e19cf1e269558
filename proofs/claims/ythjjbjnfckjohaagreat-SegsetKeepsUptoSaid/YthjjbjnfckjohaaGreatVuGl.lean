/- The laws: each returns true where what it reads is of bulk at most 1048576, and leaves the rest as it was. -/
import Derived.Test.YthjjbjnfckjohaaGreatRows
import Derived.Test.YthjjbjnfckjohaaGreatVuSg2
import Derived.Test.YthjjbjnfckjohaaGreatVuKm
import Derived.Test.YthjjbjnfckjohaaGreatVuRow
set_option linter.unusedVariables false
set_option maxRecDepth 100000
namespace Go.Proofs.YthjjbjnfckjohaaGreat
open Go Go.Vu Go.Vu.Sg Go.ChangeShapes Go.WideShapes Go.ChangeAt Go.RowKit
mutual
theorem bulkIs {H : Type} : ∀ d : DataW H, Vu.bulk d = Rows.uptoBulk d
 | .lit l => by cases l <;> simp only [Vu.bulk, Rows.uptoBulk]
 | .nil => by simp only [Vu.bulk, Rows.uptoBulk]
 | .ptr d => by simp only [Vu.bulk, Rows.uptoBulk, bulkIs d]
 | .slice e s => by simp only [Vu.bulk, Rows.uptoBulk, bulkAllIs e, bulkAllIs s]
 | .agg p => by simp only [Vu.bulk, Rows.uptoBulk, bulkAllIs p]
 | .iface _ d => by simp only [Vu.bulk, Rows.uptoBulk, bulkIs d]
 | .map e => by simp only [Vu.bulk, Rows.uptoBulk, bulkEntriesIs e]
 | .held _ => by simp only [Vu.bulk, Rows.uptoBulk]
theorem bulkAllIs {H : Type} : ∀ l : List (DataW H), Vu.bulkAll l = Rows.uptoBulkAll l
 | [] => by simp only [Vu.bulkAll, Rows.uptoBulkAll]
 | d :: r => by simp only [Vu.bulkAll, Rows.uptoBulkAll, bulkIs d, bulkAllIs r]
theorem bulkEntriesIs {H : Type} : ∀ l : List (Lit × DataW H), Vu.bulkEntries l = Rows.uptoBulkEntries l
 | [] => by simp only [Vu.bulkEntries, Rows.uptoBulkEntries]
 | x :: r => by simp only [Vu.bulkEntries, Rows.uptoBulkEntries, bulkEntryIs x, bulkEntriesIs r]
theorem bulkEntryIs {H : Type} : ∀ x : Lit × DataW H, Vu.bulkEntry x = Rows.uptoBulkEntry x
 | (l, d) => by cases l <;> simp only [Vu.bulkEntry, Rows.uptoBulkEntry, bulkIs d]
end
theorem bulkSmall {H : Type} {l : List (DataW H)} (h : Rows.uptoSmall H l = true) : Vu.bulkAll l ≤ 1048576 := by
 rw [bulkAllIs]; simpa [Rows.uptoSmall] using h
theorem own : ownKnob Tryz.prog.godebug = none := by kernel_rfl
theorem laid : laidOutB Tryz.prog = true := by kernel_rfl
abbrev TP : Ty := .slice (.st (.pair (.int IntKind.i32) (.int IntKind.i32)))
abbrev TX : Ty := .slice .str
abbrev TS : Ty := .st (.pair TP (.pair TP TX))
theorem lenP (v : List (Int × Int)) : v.length ≤ bulkV TP v := by
 induction v with
 | nil => simp [bulkV]
 | cons x v ih => simp only [bulkV, sumN, List.length_cons] at ih ⊢; omega
theorem lenX (v : List Tx) : v.length ≤ bulkV TX v ∧ ∀ t ∈ v, t.length ≤ bulkV TX v := by
 induction v with
 | nil => simp [bulkV]
 | cons x v ih =>
  obtain ⟨h1, h2⟩ := ih
  simp only [bulkV, sumN, List.length_cons] at h1 h2 ⊢
  refine ⟨by omega, fun t ht => ?_⟩
  rcases List.mem_cons.1 ht with rfl | ht
  ·omega
  ·have := h2 t ht; omega
def OkX (l : List Tx) : Prop := l.length ≤ 1100000 ∧ ∀ t ∈ l, t.length ≤ 10000000
theorem okP (v : List (Int × Int)) (h : bulkV TP v ≤ 1048576) : v.length ≤ 1100000 := by have := lenP v; omega
theorem okX (v : List Tx) (h : bulkV TX v ≤ 1048576) : OkX v := by
 obtain ⟨h1, h2⟩ := lenX v
 exact ⟨by omega, fun t ht => by have := h2 t ht; omega⟩
theorem okS (v : TSet) (h : bulkV TS v ≤ 1048576) : OkS 1100000 v := by
 have e : bulkV TS v = bulkV TP v.1 + (bulkV TP v.2.1 + bulkV TX v.2.2) + 1 := rfl
 rw [e] at h
 have h1 := lenP v.1; have h2 := lenP v.2.1
 obtain ⟨h3, h4⟩ := lenX v.2.2
 exact ⟨by omega, by omega, by omega, fun t ht => by have := h4 t ht; omega⟩
theorem lKeeps_w (a b : TSet) (ha : OkS 1100000 a) (hb : OkS 1100000 b) : lKeeps a b = some ((), (true, ())) := lKeeps_is a b ha hb
namespace segsetKeeps
theorem told (v : PDen (roPs [TS, TS])) (hf : fitsAll [TS, TS] v) (h : bulkVs [TS, TS] v ≤ 1048576) : lKeeps v.1 v.2.1 = some ((), (true, ())) := by
 have hb : bulkV TS v.1 + bulkV TS v.2.1 ≤ 1048576 := by simp only [bulkVs] at h; omega
 exact lKeeps_w v.1 v.2.1 (okS v.1 (by omega)) (okS v.2.1 (by omega))
theorem reads {H : Type} : ∀ ds : List (DataW H), ds.length = 2 → Rows.segsetKeepsSpec.fn H ds = { results := [.lit (.bool true)], args := ds }
 | [d1, d2], _ => rfl
theorem contract (H : Type) (enc : TypeId × Value → H) (W : World) (base : Nat) (args : Array Value) (ds gs : List (DataW H)) (before : List MemPlace)
  (hval : ∀ (j : Nat) t v, Tryz.f5.params[j]? = some t → args[j]? = some v → Value.okWide Tryz.prog W .any base t v)
  (hW : DataW.Whole enc Tryz.prog Tryz.f5.params.toList Rows.segsetKeepsSpec.vars false W args.toList ds gs before) (hk : Rows.uptoSmall H (ds ++ gs) = true) :
  Calls Tryz.prog 5 args W fun e W' => ∃ v, e = .returned v ∧ Rows.segsetKeepsSpec.post enc Tryz.prog Tryz.f5 false true false false W args v W' :=
 law_calls (c := lKeeps_c) (Ts := [TS, TS]) (ts := Tryz.f5.params.toList) (m := ()) (bt := 4) (N := 1048576) lKeeps_ok (fun v hf hb => told v hf hb) laid rfl (by kernel_rfl) (by kernel_rfl) (by kernel_rfl) rfl (fun ds h => reads ds h) hval hW (bulkSmall hk)
theorem lifted (os : Os) (started : os.Started) (H : Type) (enc : TypeId × Value → H) (F : Stop.Interp) :
  ReturnsInHanded {} Tryz.checked os 5 .any ((Rows.OpenSpec.upto Rows.segsetKeepsSpec).pre6 enc Tryz.prog Tryz.f5 Rows.segsetKeepsUptoRow.domain false) (((Rows.OpenSpec.upto Rows.segsetKeepsSpec).at F).post enc Tryz.prog Tryz.f5 false true false false) := by
 refine returnsInHanded_of_cond (C := Tryz.checked) (s := Rows.OpenSpec.upto Rows.segsetKeepsSpec) (k := Rows.uptoSmall) rfl own started (by kernel_rfl) Tryz.func5
  (OpenSpec.witness (enc := enc) (C := Tryz.checked) (s := Rows.OpenSpec.upto Rows.segsetKeepsSpec) (k := Rows.uptoSmall) rfl false ⟨#[], #[.agg #[.slice none 0 0, .slice none 0 0, .slice none 0 0], .agg #[.slice none 0 0, .slice none 0 0, .slice none 0 0]], []⟩ 8 (by kernel_rfl) (by kernel_rfl) (by kernel_rfl)
   (x := ([.agg [.nil, .nil, .nil], .agg [.nil, .nil, .nil]], [], [])) (by kernel_rfl) rfl (by kernel_rfl)) ?_
 intro W base args ds gs before hval hW _ hk _
 exact contract H enc W base args ds gs before hval hW hk
theorem over : Rows.segsetKeepsUptoRow.holds Tryz.pinned (Rows.OpenSpec.upto Rows.segsetKeepsSpec) :=
 OpenClaim.holds_of_cond 5 Tryz.f5 rfl rfl rfl rfl rfl rfl rfl ⟨rfl, rfl, rfl, rfl, rfl⟩ rfl rfl rfl rfl rfl (by kernel_rfl) Tryz.func5 (by kernel_rfl)
  (of_decide_eq_true (by kernel_rfl)) (by unfold Func.isWrapper; first | (rw [if_pos (by decide +kernel)]; kernel_rfl) | (rw [if_neg (by decide +kernel)]; exact ⟨rfl, rfl⟩))
  (fun os started H enc _ F => lifted os started H enc F)
theorem proved : Rows.SegsetKeepsUptoSaid :=
 over
end segsetKeeps
end Go.Proofs.YthjjbjnfckjohaaGreat
