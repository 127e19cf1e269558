/- The laws: each returns true where what it reads is of bulk at most 1048576, and leaves the rest as it was. -/
import Derived.Test.YthjjbjnfckjohaaGreatRows
import Derived.Test.YthjjbjnfckjohaaGreatVtSg2
import Derived.Test.YthjjbjnfckjohaaGreatVtGs
import Derived.Test.YthjjbjnfckjohaaGreatVtRow
set_option linter.unusedVariables false
set_option maxRecDepth 100000
namespace Go.Proofs.YthjjbjnfckjohaaGreat
open Go Go.Vt Go.Vt.Sg Go.ChangeShapes Go.WideShapes Go.ChangeAt Go.RowKit

mutual
theorem bulkIs {H : Type} : ∀ d : DataW H, Vt.bulk d = Rows.uptoBulk d
  | .lit l => by cases l <;> simp only [Vt.bulk, Rows.uptoBulk]
  | .nil => by simp only [Vt.bulk, Rows.uptoBulk]
  | .ptr d => by simp only [Vt.bulk, Rows.uptoBulk, bulkIs d]
  | .slice e s => by simp only [Vt.bulk, Rows.uptoBulk, bulkAllIs e, bulkAllIs s]
  | .agg p => by simp only [Vt.bulk, Rows.uptoBulk, bulkAllIs p]
  | .iface _ d => by simp only [Vt.bulk, Rows.uptoBulk, bulkIs d]
  | .map e => by simp only [Vt.bulk, Rows.uptoBulk, bulkEntriesIs e]
  | .held _ => by simp only [Vt.bulk, Rows.uptoBulk]
theorem bulkAllIs {H : Type} : ∀ l : List (DataW H), Vt.bulkAll l = Rows.uptoBulkAll l
  | [] => by simp only [Vt.bulkAll, Rows.uptoBulkAll]
  | d :: r => by simp only [Vt.bulkAll, Rows.uptoBulkAll, bulkIs d, bulkAllIs r]
theorem bulkEntriesIs {H : Type} : ∀ l : List (Lit × DataW H), Vt.bulkEntries l = Rows.uptoBulkEntries l
  | [] => by simp only [Vt.bulkEntries, Rows.uptoBulkEntries]
  | x :: r => by simp only [Vt.bulkEntries, Rows.uptoBulkEntries, bulkEntryIs x, bulkEntriesIs r]
theorem bulkEntryIs {H : Type} : ∀ x : Lit × DataW H, Vt.bulkEntry x = Rows.uptoBulkEntry x
  | (l, d) => by cases l <;> simp only [Vt.bulkEntry, Rows.uptoBulkEntry, bulkIs d]
end
theorem bulkSmall {H : Type} {l : List (DataW H)} (h : Rows.uptoSmall H l = true) : Vt.bulkAll l ≤ 1048576 := by
  rw [bulkAllIs]; simpa [Rows.uptoSmall] using h

theorem own : ownKnob Tryz.prog.godebug = none := by kernel_rfl
theorem laid : laidOutB Tryz.prog = true := by kernel_rfl
abbrev TP : Ty := .slice (.st (.pair (.int IntKind.i32) (.int IntKind.i32)))
abbrev TX : Ty := .slice .str
abbrev TS : Ty := .st (.pair TP (.pair TP TX))
theorem lenP (v : List (Int × Int)) : v.length ≤ bulkV TP v := by
  induction v with
  | nil => simp [bulkV]
  | cons x v ih => simp only [bulkV, sumN, List.length_cons] at ih ⊢; omega
theorem lenX (v : List Tx) : v.length ≤ bulkV TX v ∧ ∀ t ∈ v, t.length ≤ bulkV TX v := by
  induction v with
  | nil => simp [bulkV]
  | cons x v ih =>
    obtain ⟨h1, h2⟩ := ih
    simp only [bulkV, sumN, List.length_cons] at h1 h2 ⊢
    refine ⟨by omega, fun t ht => ?_⟩
    rcases List.mem_cons.1 ht with rfl | ht
    · omega
    · have := h2 t ht; omega
def OkX (l : List Tx) : Prop := l.length ≤ 1100000 ∧ ∀ t ∈ l, t.length ≤ 10000000
theorem okP (v : List (Int × Int)) (h : bulkV TP v ≤ 1048576) : v.length ≤ 1100000 := by have := lenP v; omega
theorem okX (v : List Tx) (h : bulkV TX v ≤ 1048576) : OkX v := by
  obtain ⟨h1, h2⟩ := lenX v
  exact ⟨by omega, fun t ht => by have := h2 t ht; omega⟩
theorem okS (v : TSet) (h : bulkV TS v ≤ 1048576) : OkS 1100000 v := by
  have e : bulkV TS v = bulkV TP v.1 + (bulkV TP v.2.1 + bulkV TX v.2.2) + 1 := rfl
  rw [e] at h
  have h1 := lenP v.1; have h2 := lenP v.2.1
  obtain ⟨h3, h4⟩ := lenX v.2.2
  exact ⟨by omega, by omega, by omega, fun t ht => by have := h4 t ht; omega⟩
theorem lMembers_w (a b : TSet) (l : List Tx) (ha : OkS 1100000 a) (hb : OkS 1100000 b) (hl : OkX l) : lMembers a b l = some ((), (true, ())) := lMembers_is a b l ha hb hl.1 hl.2
theorem lAlgebra_w (a b c : TSet) (ha : OkS 1100000 a) (hb : OkS 1100000 b) (hc : OkS 1100000 c) : lAlgebra a b c = some ((), (true, ())) := lAlgebra_is a b c ha hb hc
theorem lTexts_w (l m : List Tx) (hl : OkX l) (hm : OkX m) : lTexts l m = some ((), (true, ())) := lTexts_is l m hl.1 hm.1 hl.2 hm.2
theorem lFirsts_w (l : List (Int × Int)) (m : List Tx) (hl : l.length ≤ 1100000) (hm : OkX m) : lFirsts l m = some ((), (true, ())) := lFirsts_is l m hl hm.1 hm.2

namespace segsetMembers
theorem told (v : PDen (roPs [TS, TS, TX])) (hf : fitsAll [TS, TS, TX] v) (h : bulkVs [TS, TS, TX] v ≤ 1048576) : lMembers v.1 v.2.1 v.2.2.1 = some ((), (true, ())) := by
  have hb : bulkV TS v.1 + bulkV TS v.2.1 + bulkV TX v.2.2.1 ≤ 1048576 := by simp only [bulkVs] at h; omega
  exact lMembers_w v.1 v.2.1 v.2.2.1 (okS v.1 (by omega)) (okS v.2.1 (by omega)) (okX v.2.2.1 (by omega))
theorem reads {H : Type} : ∀ ds : List (DataW H), ds.length = 3 → Rows.segsetMembersSpec.fn H ds = { results := [.lit (.bool true)], args := ds }
  | [d1, d2, d3], _ => rfl
theorem contract (H : Type) (enc : TypeId × Value → H) (W : World) (base : Nat) (args : Array Value) (ds gs : List (DataW H)) (before : List MemPlace)
    (hval : ∀ (j : Nat) t v, Tryz.f3.params[j]? = some t → args[j]? = some v → Value.okWide Tryz.prog W .any base t v)
    (hW : DataW.Whole enc Tryz.prog Tryz.f3.params.toList Rows.segsetMembersSpec.vars false W args.toList ds gs before) (hk : Rows.uptoSmall H (ds ++ gs) = true) :
    Calls Tryz.prog 3 args W fun e W' => ∃ v, e = .returned v ∧ Rows.segsetMembersSpec.post enc Tryz.prog Tryz.f3 false true false false W args v W' :=
  law_calls (c := lMembers_c) (Ts := [TS, TS, TX]) (ts := Tryz.f3.params.toList) (m := ()) (bt := 4) (N := 1048576) lMembers_ok (fun v hf hb => told v hf hb) laid rfl (by kernel_rfl) (by kernel_rfl) (by kernel_rfl) rfl (fun ds h => reads ds h) hval hW (bulkSmall hk)
theorem lifted (os : Os) (started : os.Started) (H : Type) (enc : TypeId × Value → H) (F : Stop.Interp) :
    ReturnsInHanded {} Tryz.checked os 3 .any ((Rows.OpenSpec.upto Rows.segsetMembersSpec).pre6 enc Tryz.prog Tryz.f3 Rows.segsetMembersUptoRow.domain false) (((Rows.OpenSpec.upto Rows.segsetMembersSpec).at F).post enc Tryz.prog Tryz.f3 false true false false) := by
  refine returnsInHanded_of_cond (C := Tryz.checked) (s := Rows.OpenSpec.upto Rows.segsetMembersSpec) (k := Rows.uptoSmall) rfl own started (by kernel_rfl) Tryz.func3
    (OpenSpec.witness (enc := enc) (C := Tryz.checked) (s := Rows.OpenSpec.upto Rows.segsetMembersSpec) (k := Rows.uptoSmall) rfl false ⟨#[], #[.agg #[.slice none 0 0, .slice none 0 0, .slice none 0 0], .agg #[.slice none 0 0, .slice none 0 0, .slice none 0 0], .slice none 0 0], []⟩ 8 (by kernel_rfl) (by kernel_rfl) (by kernel_rfl)
      (x := ([.agg [.nil, .nil, .nil], .agg [.nil, .nil, .nil], .nil], [], [])) (by kernel_rfl) rfl (by kernel_rfl)) ?_
  intro W base args ds gs before hval hW _ hk _
  exact contract H enc W base args ds gs before hval hW hk
theorem over : Rows.segsetMembersUptoRow.holds Tryz.pinned (Rows.OpenSpec.upto Rows.segsetMembersSpec) :=
  OpenClaim.holds_of_cond 3 Tryz.f3 rfl rfl rfl rfl rfl rfl rfl ⟨rfl, rfl, rfl, rfl, rfl⟩ rfl rfl rfl rfl rfl (by kernel_rfl) Tryz.func3 (by kernel_rfl)
    (of_decide_eq_true (by kernel_rfl)) (by unfold Func.isWrapper; first | (rw [if_pos (by decide +kernel)]; kernel_rfl) | (rw [if_neg (by decide +kernel)]; exact ⟨rfl, rfl⟩))
    (fun os started H enc _ F => lifted os started H enc F)
theorem proved : Rows.SegsetMembersUptoSaid :=
  over
end segsetMembers

namespace segsetAlgebra
theorem told (v : PDen (roPs [TS, TS, TS])) (hf : fitsAll [TS, TS, TS] v) (h : bulkVs [TS, TS, TS] v ≤ 1048576) : lAlgebra v.1 v.2.1 v.2.2.1 = some ((), (true, ())) := by
  have hb : bulkV TS v.1 + bulkV TS v.2.1 + bulkV TS v.2.2.1 ≤ 1048576 := by simp only [bulkVs] at h; omega
  exact lAlgebra_w v.1 v.2.1 v.2.2.1 (okS v.1 (by omega)) (okS v.2.1 (by omega)) (okS v.2.2.1 (by omega))
theorem reads {H : Type} : ∀ ds : List (DataW H), ds.length = 3 → Rows.segsetAlgebraSpec.fn H ds = { results := [.lit (.bool true)], args := ds }
  | [d1, d2, d3], _ => rfl
theorem contract (H : Type) (enc : TypeId × Value → H) (W : World) (base : Nat) (args : Array Value) (ds gs : List (DataW H)) (before : List MemPlace)
    (hval : ∀ (j : Nat) t v, Tryz.f4.params[j]? = some t → args[j]? = some v → Value.okWide Tryz.prog W .any base t v)
    (hW : DataW.Whole enc Tryz.prog Tryz.f4.params.toList Rows.segsetAlgebraSpec.vars false W args.toList ds gs before) (hk : Rows.uptoSmall H (ds ++ gs) = true) :
    Calls Tryz.prog 4 args W fun e W' => ∃ v, e = .returned v ∧ Rows.segsetAlgebraSpec.post enc Tryz.prog Tryz.f4 false true false false W args v W' :=
  law_calls (c := lAlgebra_c) (Ts := [TS, TS, TS]) (ts := Tryz.f4.params.toList) (m := ()) (bt := 4) (N := 1048576) lAlgebra_ok (fun v hf hb => told v hf hb) laid rfl (by kernel_rfl) (by kernel_rfl) (by kernel_rfl) rfl (fun ds h => reads ds h) hval hW (bulkSmall hk)
theorem lifted (os : Os) (started : os.Started) (H : Type) (enc : TypeId × Value → H) (F : Stop.Interp) :
    ReturnsInHanded {} Tryz.checked os 4 .any ((Rows.OpenSpec.upto Rows.segsetAlgebraSpec).pre6 enc Tryz.prog Tryz.f4 Rows.segsetAlgebraUptoRow.domain false) (((Rows.OpenSpec.upto Rows.segsetAlgebraSpec).at F).post enc Tryz.prog Tryz.f4 false true false false) := by
  refine returnsInHanded_of_cond (C := Tryz.checked) (s := Rows.OpenSpec.upto Rows.segsetAlgebraSpec) (k := Rows.uptoSmall) rfl own started (by kernel_rfl) Tryz.func4
    (OpenSpec.witness (enc := enc) (C := Tryz.checked) (s := Rows.OpenSpec.upto Rows.segsetAlgebraSpec) (k := Rows.uptoSmall) rfl false ⟨#[], #[.agg #[.slice none 0 0, .slice none 0 0, .slice none 0 0], .agg #[.slice none 0 0, .slice none 0 0, .slice none 0 0], .agg #[.slice none 0 0, .slice none 0 0, .slice none 0 0]], []⟩ 8 (by kernel_rfl) (by kernel_rfl) (by kernel_rfl)
      (x := ([.agg [.nil, .nil, .nil], .agg [.nil, .nil, .nil], .agg [.nil, .nil, .nil]], [], [])) (by kernel_rfl) rfl (by kernel_rfl)) ?_
  intro W base args ds gs before hval hW _ hk _
  exact contract H enc W base args ds gs before hval hW hk
theorem over : Rows.segsetAlgebraUptoRow.holds Tryz.pinned (Rows.OpenSpec.upto Rows.segsetAlgebraSpec) :=
  OpenClaim.holds_of_cond 4 Tryz.f4 rfl rfl rfl rfl rfl rfl rfl ⟨rfl, rfl, rfl, rfl, rfl⟩ rfl rfl rfl rfl rfl (by kernel_rfl) Tryz.func4 (by kernel_rfl)
    (of_decide_eq_true (by kernel_rfl)) (by unfold Func.isWrapper; first | (rw [if_pos (by decide +kernel)]; kernel_rfl) | (rw [if_neg (by decide +kernel)]; exact ⟨rfl, rfl⟩))
    (fun os started H enc _ F => lifted os started H enc F)
theorem proved : Rows.SegsetAlgebraUptoSaid :=
  over
end segsetAlgebra

namespace segsetTexts
theorem told (v : PDen (roPs [TX, TX])) (hf : fitsAll [TX, TX] v) (h : bulkVs [TX, TX] v ≤ 1048576) : lTexts v.1 v.2.1 = some ((), (true, ())) := by
  have hb : bulkV TX v.1 + bulkV TX v.2.1 ≤ 1048576 := by simp only [bulkVs] at h; omega
  exact lTexts_w v.1 v.2.1 (okX v.1 (by omega)) (okX v.2.1 (by omega))
theorem reads {H : Type} : ∀ ds : List (DataW H), ds.length = 2 → Rows.segsetTextsSpec.fn H ds = { results := [.lit (.bool true)], args := ds }
  | [d1, d2], _ => rfl
theorem contract (H : Type) (enc : TypeId × Value → H) (W : World) (base : Nat) (args : Array Value) (ds gs : List (DataW H)) (before : List MemPlace)
    (hval : ∀ (j : Nat) t v, Tryz.f6.params[j]? = some t → args[j]? = some v → Value.okWide Tryz.prog W .any base t v)
    (hW : DataW.Whole enc Tryz.prog Tryz.f6.params.toList Rows.segsetTextsSpec.vars false W args.toList ds gs before) (hk : Rows.uptoSmall H (ds ++ gs) = true) :
    Calls Tryz.prog 6 args W fun e W' => ∃ v, e = .returned v ∧ Rows.segsetTextsSpec.post enc Tryz.prog Tryz.f6 false true false false W args v W' :=
  law_calls (c := lTexts_c) (Ts := [TX, TX]) (ts := Tryz.f6.params.toList) (m := ()) (bt := 4) (N := 1048576) lTexts_ok (fun v hf hb => told v hf hb) laid rfl (by kernel_rfl) (by kernel_rfl) (by kernel_rfl) rfl (fun ds h => reads ds h) hval hW (bulkSmall hk)
theorem lifted (os : Os) (started : os.Started) (H : Type) (enc : TypeId × Value → H) (F : Stop.Interp) :
    ReturnsInHanded {} Tryz.checked os 6 .any ((Rows.OpenSpec.upto Rows.segsetTextsSpec).pre6 enc Tryz.prog Tryz.f6 Rows.segsetTextsUptoRow.domain false) (((Rows.OpenSpec.upto Rows.segsetTextsSpec).at F).post enc Tryz.prog Tryz.f6 false true false false) := by
  refine returnsInHanded_of_cond (C := Tryz.checked) (s := Rows.OpenSpec.upto Rows.segsetTextsSpec) (k := Rows.uptoSmall) rfl own started (by kernel_rfl) Tryz.func6
    (OpenSpec.witness (enc := enc) (C := Tryz.checked) (s := Rows.OpenSpec.upto Rows.segsetTextsSpec) (k := Rows.uptoSmall) rfl false ⟨#[], #[.slice none 0 0, .slice none 0 0], []⟩ 8 (by kernel_rfl) (by kernel_rfl) (by kernel_rfl)
      (x := ([.nil, .nil], [], [])) (by kernel_rfl) rfl (by kernel_rfl)) ?_
  intro W base args ds gs before hval hW _ hk _
  exact contract H enc W base args ds gs before hval hW hk
theorem over : Rows.segsetTextsUptoRow.holds Tryz.pinned (Rows.OpenSpec.upto Rows.segsetTextsSpec) :=
  OpenClaim.holds_of_cond 6 Tryz.f6 rfl rfl rfl rfl rfl rfl rfl ⟨rfl, rfl, rfl, rfl, rfl⟩ rfl rfl rfl rfl rfl (by kernel_rfl) Tryz.func6 (by kernel_rfl)
    (of_decide_eq_true (by kernel_rfl)) (by unfold Func.isWrapper; first | (rw [if_pos (by decide +kernel)]; kernel_rfl) | (rw [if_neg (by decide +kernel)]; exact ⟨rfl, rfl⟩))
    (fun os started H enc _ F => lifted os started H enc F)
theorem proved : Rows.SegsetTextsUptoSaid :=
  over
end segsetTexts

namespace segsetFirsts
theorem told (v : PDen (roPs [TP, TX])) (hf : fitsAll [TP, TX] v) (h : bulkVs [TP, TX] v ≤ 1048576) : lFirsts v.1 v.2.1 = some ((), (true, ())) := by
  have hb : bulkV TP v.1 + bulkV TX v.2.1 ≤ 1048576 := by simp only [bulkVs] at h; omega
  exact lFirsts_w v.1 v.2.1 (okP v.1 (by omega)) (okX v.2.1 (by omega))
theorem reads {H : Type} : ∀ ds : List (DataW H), ds.length = 2 → Rows.segsetFirstsSpec.fn H ds = { results := [.lit (.bool true)], args := ds }
  | [d1, d2], _ => rfl
theorem contract (H : Type) (enc : TypeId × Value → H) (W : World) (base : Nat) (args : Array Value) (ds gs : List (DataW H)) (before : List MemPlace)
    (hval : ∀ (j : Nat) t v, Tryz.f7.params[j]? = some t → args[j]? = some v → Value.okWide Tryz.prog W .any base t v)
    (hW : DataW.Whole enc Tryz.prog Tryz.f7.params.toList Rows.segsetFirstsSpec.vars false W args.toList ds gs before) (hk : Rows.uptoSmall H (ds ++ gs) = true) :
    Calls Tryz.prog 7 args W fun e W' => ∃ v, e = .returned v ∧ Rows.segsetFirstsSpec.post enc Tryz.prog Tryz.f7 false true false false W args v W' :=
  law_calls (c := lFirsts_c) (Ts := [TP, TX]) (ts := Tryz.f7.params.toList) (m := ()) (bt := 4) (N := 1048576) lFirsts_ok (fun v hf hb => told v hf hb) laid rfl (by kernel_rfl) (by kernel_rfl) (by kernel_rfl) rfl (fun ds h => reads ds h) hval hW (bulkSmall hk)
theorem lifted (os : Os) (started : os.Started) (H : Type) (enc : TypeId × Value → H) (F : Stop.Interp) :
    ReturnsInHanded {} Tryz.checked os 7 .any ((Rows.OpenSpec.upto Rows.segsetFirstsSpec).pre6 enc Tryz.prog Tryz.f7 Rows.segsetFirstsUptoRow.domain false) (((Rows.OpenSpec.upto Rows.segsetFirstsSpec).at F).post enc Tryz.prog Tryz.f7 false true false false) := by
  refine returnsInHanded_of_cond (C := Tryz.checked) (s := Rows.OpenSpec.upto Rows.segsetFirstsSpec) (k := Rows.uptoSmall) rfl own started (by kernel_rfl) Tryz.func7
    (OpenSpec.witness (enc := enc) (C := Tryz.checked) (s := Rows.OpenSpec.upto Rows.segsetFirstsSpec) (k := Rows.uptoSmall) rfl false ⟨#[], #[.slice none 0 0, .slice none 0 0], []⟩ 8 (by kernel_rfl) (by kernel_rfl) (by kernel_rfl)
      (x := ([.nil, .nil], [], [])) (by kernel_rfl) rfl (by kernel_rfl)) ?_
  intro W base args ds gs before hval hW _ hk _
  exact contract H enc W base args ds gs before hval hW hk
theorem over : Rows.segsetFirstsUptoRow.holds Tryz.pinned (Rows.OpenSpec.upto Rows.segsetFirstsSpec) :=
  OpenClaim.holds_of_cond 7 Tryz.f7 rfl rfl rfl rfl rfl rfl rfl ⟨rfl, rfl, rfl, rfl, rfl⟩ rfl rfl rfl rfl rfl (by kernel_rfl) Tryz.func7 (by kernel_rfl)
    (of_decide_eq_true (by kernel_rfl)) (by unfold Func.isWrapper; first | (rw [if_pos (by decide +kernel)]; kernel_rfl) | (rw [if_neg (by decide +kernel)]; exact ⟨rfl, rfl⟩))
    (fun os started H enc _ F => lifted os started H enc F)
theorem proved : Rows.SegsetFirstsUptoSaid :=
  over
end segsetFirsts
end Go.Proofs.YthjjbjnfckjohaaGreat
