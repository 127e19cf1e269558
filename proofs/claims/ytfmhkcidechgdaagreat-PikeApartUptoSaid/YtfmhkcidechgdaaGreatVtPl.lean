/- The laws: each returns true where what it reads is of bulk at most 1048576, and leaves the rest as it was. -/
import Derived.Test.YtfmhkcidechgdaaGreatRows
import Derived.Test.YtfmhkcidechgdaaGreatVtPp9
import Derived.Test.YtfmhkcidechgdaaGreatVtPk2
import Derived.Test.YtfmhkcidechgdaaGreatVtRow
set_option linter.unusedVariables false
set_option maxRecDepth 100000
namespace Go.Proofs.YtfmhkcidechgdaaGreat
open Go Go.Vt Go.Vt.Pk Go.ChangeShapes Go.WideShapes Go.ChangeAt Go.RowKit
mutual
theorem bulkIs {H : Type} : ∀ d : DataW H, Vt.bulk d = Rows.uptoBulk d
  | .lit l => by cases l <;> simp only [Vt.bulk, Rows.uptoBulk]
  | .nil => by simp only [Vt.bulk, Rows.uptoBulk]
  | .ptr d => by simp only [Vt.bulk, Rows.uptoBulk, bulkIs d]
  | .slice e s => by simp only [Vt.bulk, Rows.uptoBulk, bulkAllIs e, bulkAllIs s]
  | .agg p => by simp only [Vt.bulk, Rows.uptoBulk, bulkAllIs p]
  | .iface _ d => by simp only [Vt.bulk, Rows.uptoBulk, bulkIs d]
  | .map e => by simp only [Vt.bulk, Rows.uptoBulk, bulkEntriesIs e]
  | .held _ => by simp only [Vt.bulk, Rows.uptoBulk]
theorem bulkAllIs {H : Type} : ∀ l : List (DataW H), Vt.bulkAll l = Rows.uptoBulkAll l
  | [] => by simp only [Vt.bulkAll, Rows.uptoBulkAll]
  | d :: r => by simp only [Vt.bulkAll, Rows.uptoBulkAll, bulkIs d, bulkAllIs r]
theorem bulkEntriesIs {H : Type} : ∀ l : List (Lit × DataW H), Vt.bulkEntries l = Rows.uptoBulkEntries l
  | [] => by simp only [Vt.bulkEntries, Rows.uptoBulkEntries]
  | x :: r => by simp only [Vt.bulkEntries, Rows.uptoBulkEntries, bulkEntryIs x, bulkEntriesIs r]
theorem bulkEntryIs {H : Type} : ∀ x : Lit × DataW H, Vt.bulkEntry x = Rows.uptoBulkEntry x
  | (l, d) => by cases l <;> simp only [Vt.bulkEntry, Rows.uptoBulkEntry, bulkIs d]
end
theorem bulkSmall {H : Type} {l : List (DataW H)} (h : Rows.uptoSmall H l = true) : Vt.bulkAll l ≤ 1048576 := by
  rw [bulkAllIs]; simpa [Rows.uptoSmall] using h
theorem own : ownKnob Tryz.prog.godebug = none := by kernel_rfl
theorem laid : laidOutB Tryz.prog = true := by kernel_rfl
abbrev TI : Ty := .int IntKind.i64
abbrev TP : Ty := .slice (.st (.pair (.int IntKind.i32) (.int IntKind.i32)))
abbrev TX : Ty := .slice .str
abbrev TS : Ty := .st (.pair TP (.pair TP TX))
abbrev TN : Ty := .st (.pair TI (.pair TS (.pair TI TI)))
abbrev TG : Ty := .slice TN
abbrev TA : Ty := .st (.pair TI (.pair TI TI))
abbrev TB : Ty := .st (.pair TI TI)
abbrev TD : Ty := .st (.pair TX TX)
theorem lenP (v : List (Int × Int)) : v.length ≤ bulkV TP v := by
  induction v with
  | nil => simp [bulkV]
  | cons x v ih => simp only [bulkV, sumN, List.length_cons] at ih ⊢; omega
theorem lenX (v : List Tx) : v.length ≤ bulkV TX v ∧ ∀ t ∈ v, t.length ≤ bulkV TX v := by
  induction v with
  | nil => simp [bulkV]
  | cons x v ih =>
    obtain ⟨h1, h2⟩ := ih
    simp only [bulkV, sumN, List.length_cons] at h1 h2 ⊢
    refine ⟨by omega, fun t ht => ?_⟩
    rcases List.mem_cons.1 ht with rfl | ht
    · omega
    · have := h2 t ht; omega
def OkX (l : List Tx) : Prop := l.length ≤ 1100000 ∧ ∀ t ∈ l, t.length ≤ 10000000
theorem okX (v : List Tx) (h : bulkV TX v ≤ 1048576) : OkX v := by
  obtain ⟨h1, h2⟩ := lenX v
  exact ⟨by omega, fun t ht => by have := h2 t ht; omega⟩
theorem okS (v : TSet) (h : bulkV TS v ≤ 1048576) : OkS 20000000 v := by
  have e : bulkV TS v = bulkV TP v.1 + (bulkV TP v.2.1 + bulkV TX v.2.2) + 1 := rfl
  rw [e] at h
  have h1 := lenP v.1; have h2 := lenP v.2.1
  obtain ⟨h3, h4⟩ := lenX v.2.2
  exact ⟨by omega, by omega, by omega, fun t ht => by have := h4 t ht; omega⟩
theorem lenG (v : List In) : v.length ≤ bulkV TG v ∧ ∀ i ∈ v, bulkV TS i.2.1 ≤ bulkV TG v := by
  induction v with
  | nil => simp [bulkV]
  | cons x v ih =>
    obtain ⟨h1, h2⟩ := ih
    have e : bulkV TG (x :: v) = bulkV TG v + bulkV TN x := by
      simp only [bulkV, sumN]; omega
    have e2 : bulkV TN x = 1 + (bulkV TS x.2.1 + (1 + 1)) + 1 := rfl
    rw [e]
    refine ⟨by simp only [List.length_cons]; omega, fun i hi => ?_⟩
    rcases List.mem_cons.1 hi with rfl | hi
    · omega
    · have := h2 i hi; omega
def OkG (p : List In) : Prop := p.length ≤ 10000000 ∧ ∀ i ∈ p, OkS 20000000 i.2.1
theorem okG (v : List In) (h : bulkV TG v ≤ 1048576) : OkG v := by
  obtain ⟨h1, h2⟩ := lenG v
  exact ⟨by omega, fun i hi => okS _ (by have := h2 i hi; omega)⟩
theorem okA (v : Int × (Int × Int)) (h : bulkV TA v ≤ 1048576) : True := trivial
theorem okB (v : Int × Int) (h : bulkV TB v ≤ 1048576) : True := trivial
theorem okD (v : List Tx × List Tx) (h : bulkV TD v ≤ 1048576) : OkX v.1 ∧ OkX v.2 := by
  have e : bulkV TD v = bulkV TX v.1 + bulkV TX v.2 + 1 := rfl
  exact ⟨okX _ (by omega), okX _ (by omega)⟩
theorem in8 {p : List In} {w : List Tx} (h : OkG p) (hw : OkX w) : In8 p w := ⟨h.1, h.2, by have := hw.1; omega, hw.2⟩
theorem lRuns_w (p : List In) (w : List Tx) (how : Int × (Int × Int)) (h : OkG p) (hw : OkX w) (_ : True) : lRuns p w how = some ((), (true, ())) := lRuns_is p w how (in8 h hw)
theorem lAlls_w (p : List In) (w : List Tx) (h : OkG p) (hw : OkX w) : lAlls p w = some ((), (true, ())) := lAlls_is p w (in8 h hw)
theorem lMore_w (p : List In) (w : List Tx × List Tx) (how : Int × Int) (h : OkG p) (hw : OkX w.1 ∧ OkX w.2) (_ : True) : lMore p w how = some ((), (true, ())) :=
  lMore_is p w.1 w.2 how ⟨h.1, h.2, by have := hw.1.1; have := hw.2.1; simp; omega, fun t ht => by
    rcases List.mem_append.1 ht with ht | ht
    · exact hw.1.2 t ht
    · exact hw.2.2 t ht⟩
theorem lShifts_w (p : List In) (w : List Tx) (how : Int × Int) (h : OkG p) (hw : OkX w) (_ : True) : lShifts p w how = some ((), (true, ())) := lShifts_is p w how (in8 h hw)
theorem lApart_w (p : List In) (w : List Tx) (h : OkG p) (hw : OkX w) : lApart p w = some ((), (true, ())) := lApart_is p w (in8 h hw)
namespace pikeRuns
theorem told (v : PDen (roPs [TG, TX, TA])) (hf : fitsAll [TG, TX, TA] v) (h : bulkVs [TG, TX, TA] v ≤ 1048576) : lRuns v.1 v.2.1 v.2.2.1 = some ((), (true, ())) := by
  have hb : bulkV TG v.1 + bulkV TX v.2.1 + bulkV TA v.2.2.1 ≤ 1048576 := by simp only [bulkVs] at h; omega
  exact lRuns_w v.1 v.2.1 v.2.2.1 (okG v.1 (by omega)) (okX v.2.1 (by omega)) (okA v.2.2.1 (by omega))
theorem reads {H : Type} : ∀ ds : List (DataW H), ds.length = 3 → Rows.pikeRunsSpec.fn H ds = { results := [.lit (.bool true)], args := ds }
  | [d1, d2, d3], _ => rfl
theorem contract (H : Type) (enc : TypeId × Value → H) (W : World) (base : Nat) (args : Array Value) (ds gs : List (DataW H)) (before : List MemPlace)
    (hval : ∀ (j : Nat) t v, Tryz.f3.params[j]? = some t → args[j]? = some v → Value.okWide Tryz.prog W .any base t v)
    (hW : DataW.Whole enc Tryz.prog Tryz.f3.params.toList Rows.pikeRunsSpec.vars false W args.toList ds gs before) (hk : Rows.uptoSmall H (ds ++ gs) = true) :
    Calls Tryz.prog 3 args W fun e W' => ∃ v, e = .returned v ∧ Rows.pikeRunsSpec.post enc Tryz.prog Tryz.f3 false true false false W args v W' :=
  law_calls (c := lRuns_c) (Ts := [TG, TX, TA]) (ts := Tryz.f3.params.toList) (m := ()) (bt := 4) (N := 1048576) lRuns_ok (fun v hf hb => told v hf hb) laid rfl (by kernel_rfl) (by kernel_rfl) (by kernel_rfl) rfl (fun ds h => reads ds h) hval hW (bulkSmall hk)
theorem lifted (os : Os) (started : os.Started) (H : Type) (enc : TypeId × Value → H) (F : Stop.Interp) :
    ReturnsInHanded {} Tryz.checked os 3 .any ((Rows.OpenSpec.upto Rows.pikeRunsSpec).pre6 enc Tryz.prog Tryz.f3 Rows.pikeRunsUptoRow.domain false) (((Rows.OpenSpec.upto Rows.pikeRunsSpec).at F).post enc Tryz.prog Tryz.f3 false true false false) := by
  refine returnsInHanded_of_cond (C := Tryz.checked) (s := Rows.OpenSpec.upto Rows.pikeRunsSpec) (k := Rows.uptoSmall) rfl own started (by kernel_rfl) Tryz.func3
    (OpenSpec.witness (enc := enc) (C := Tryz.checked) (s := Rows.OpenSpec.upto Rows.pikeRunsSpec) (k := Rows.uptoSmall) rfl false ⟨#[], #[.slice none 0 0, .slice none 0 0, .agg #[.int .i64 0, .int .i64 0, .int .i64 0]], []⟩ 8 (by kernel_rfl) (by kernel_rfl) (by kernel_rfl)
      (x := ([.nil, .nil, .agg [.lit (.int .i64 0), .lit (.int .i64 0), .lit (.int .i64 0)]], [], [])) (by kernel_rfl) rfl (by kernel_rfl)) ?_
  intro W base args ds gs before hval hW _ hk _
  exact contract H enc W base args ds gs before hval hW hk
theorem over : Rows.pikeRunsUptoRow.holds Tryz.pinned (Rows.OpenSpec.upto Rows.pikeRunsSpec) :=
  OpenClaim.holds_of_cond 3 Tryz.f3 rfl rfl rfl rfl rfl rfl rfl ⟨rfl, rfl, rfl, rfl, rfl⟩ rfl rfl rfl rfl rfl (by kernel_rfl) Tryz.func3 (by kernel_rfl)
    (of_decide_eq_true (by kernel_rfl)) (by unfold Func.isWrapper; first | (rw [if_pos (by decide +kernel)]; kernel_rfl) | (rw [if_neg (by decide +kernel)]; exact ⟨rfl, rfl⟩))
    (fun os started H enc _ F => lifted os started H enc F)
theorem proved : Rows.PikeRunsUptoSaid :=
  over
end pikeRuns
namespace pikeAlls
theorem told (v : PDen (roPs [TG, TX])) (hf : fitsAll [TG, TX] v) (h : bulkVs [TG, TX] v ≤ 1048576) : lAlls v.1 v.2.1 = some ((), (true, ())) := by
  have hb : bulkV TG v.1 + bulkV TX v.2.1 ≤ 1048576 := by simp only [bulkVs] at h; omega
  exact lAlls_w v.1 v.2.1 (okG v.1 (by omega)) (okX v.2.1 (by omega))
theorem reads {H : Type} : ∀ ds : List (DataW H), ds.length = 2 → Rows.pikeAllsSpec.fn H ds = { results := [.lit (.bool true)], args := ds }
  | [d1, d2], _ => rfl
theorem contract (H : Type) (enc : TypeId × Value → H) (W : World) (base : Nat) (args : Array Value) (ds gs : List (DataW H)) (before : List MemPlace)
    (hval : ∀ (j : Nat) t v, Tryz.f4.params[j]? = some t → args[j]? = some v → Value.okWide Tryz.prog W .any base t v)
    (hW : DataW.Whole enc Tryz.prog Tryz.f4.params.toList Rows.pikeAllsSpec.vars false W args.toList ds gs before) (hk : Rows.uptoSmall H (ds ++ gs) = true) :
    Calls Tryz.prog 4 args W fun e W' => ∃ v, e = .returned v ∧ Rows.pikeAllsSpec.post enc Tryz.prog Tryz.f4 false true false false W args v W' :=
  law_calls (c := lAlls_c) (Ts := [TG, TX]) (ts := Tryz.f4.params.toList) (m := ()) (bt := 4) (N := 1048576) lAlls_ok (fun v hf hb => told v hf hb) laid rfl (by kernel_rfl) (by kernel_rfl) (by kernel_rfl) rfl (fun ds h => reads ds h) hval hW (bulkSmall hk)
theorem lifted (os : Os) (started : os.Started) (H : Type) (enc : TypeId × Value → H) (F : Stop.Interp) :
    ReturnsInHanded {} Tryz.checked os 4 .any ((Rows.OpenSpec.upto Rows.pikeAllsSpec).pre6 enc Tryz.prog Tryz.f4 Rows.pikeAllsUptoRow.domain false) (((Rows.OpenSpec.upto Rows.pikeAllsSpec).at F).post enc Tryz.prog Tryz.f4 false true false false) := by
  refine returnsInHanded_of_cond (C := Tryz.checked) (s := Rows.OpenSpec.upto Rows.pikeAllsSpec) (k := Rows.uptoSmall) rfl own started (by kernel_rfl) Tryz.func4
    (OpenSpec.witness (enc := enc) (C := Tryz.checked) (s := Rows.OpenSpec.upto Rows.pikeAllsSpec) (k := Rows.uptoSmall) rfl false ⟨#[], #[.slice none 0 0, .slice none 0 0], []⟩ 8 (by kernel_rfl) (by kernel_rfl) (by kernel_rfl)
      (x := ([.nil, .nil], [], [])) (by kernel_rfl) rfl (by kernel_rfl)) ?_
  intro W base args ds gs before hval hW _ hk _
  exact contract H enc W base args ds gs before hval hW hk
theorem over : Rows.pikeAllsUptoRow.holds Tryz.pinned (Rows.OpenSpec.upto Rows.pikeAllsSpec) :=
  OpenClaim.holds_of_cond 4 Tryz.f4 rfl rfl rfl rfl rfl rfl rfl ⟨rfl, rfl, rfl, rfl, rfl⟩ rfl rfl rfl rfl rfl (by kernel_rfl) Tryz.func4 (by kernel_rfl)
    (of_decide_eq_true (by kernel_rfl)) (by unfold Func.isWrapper; first | (rw [if_pos (by decide +kernel)]; kernel_rfl) | (rw [if_neg (by decide +kernel)]; exact ⟨rfl, rfl⟩))
    (fun os started H enc _ F => lifted os started H enc F)
theorem proved : Rows.PikeAllsUptoSaid :=
  over
end pikeAlls
namespace pikeMore
theorem told (v : PDen (roPs [TG, TD, TB])) (hf : fitsAll [TG, TD, TB] v) (h : bulkVs [TG, TD, TB] v ≤ 1048576) : lMore v.1 v.2.1 v.2.2.1 = some ((), (true, ())) := by
  have hb : bulkV TG v.1 + bulkV TD v.2.1 + bulkV TB v.2.2.1 ≤ 1048576 := by simp only [bulkVs] at h; omega
  exact lMore_w v.1 v.2.1 v.2.2.1 (okG v.1 (by omega)) (okD v.2.1 (by omega)) (okB v.2.2.1 (by omega))
theorem reads {H : Type} : ∀ ds : List (DataW H), ds.length = 3 → Rows.pikeMoreSpec.fn H ds = { results := [.lit (.bool true)], args := ds }
  | [d1, d2, d3], _ => rfl
theorem contract (H : Type) (enc : TypeId × Value → H) (W : World) (base : Nat) (args : Array Value) (ds gs : List (DataW H)) (before : List MemPlace)
    (hval : ∀ (j : Nat) t v, Tryz.f6.params[j]? = some t → args[j]? = some v → Value.okWide Tryz.prog W .any base t v)
    (hW : DataW.Whole enc Tryz.prog Tryz.f6.params.toList Rows.pikeMoreSpec.vars false W args.toList ds gs before) (hk : Rows.uptoSmall H (ds ++ gs) = true) :
    Calls Tryz.prog 6 args W fun e W' => ∃ v, e = .returned v ∧ Rows.pikeMoreSpec.post enc Tryz.prog Tryz.f6 false true false false W args v W' :=
  law_calls (c := lMore_c) (Ts := [TG, TD, TB]) (ts := Tryz.f6.params.toList) (m := ()) (bt := 4) (N := 1048576) lMore_ok (fun v hf hb => told v hf hb) laid rfl (by kernel_rfl) (by kernel_rfl) (by kernel_rfl) rfl (fun ds h => reads ds h) hval hW (bulkSmall hk)
theorem lifted (os : Os) (started : os.Started) (H : Type) (enc : TypeId × Value → H) (F : Stop.Interp) :
    ReturnsInHanded {} Tryz.checked os 6 .any ((Rows.OpenSpec.upto Rows.pikeMoreSpec).pre6 enc Tryz.prog Tryz.f6 Rows.pikeMoreUptoRow.domain false) (((Rows.OpenSpec.upto Rows.pikeMoreSpec).at F).post enc Tryz.prog Tryz.f6 false true false false) := by
  refine returnsInHanded_of_cond (C := Tryz.checked) (s := Rows.OpenSpec.upto Rows.pikeMoreSpec) (k := Rows.uptoSmall) rfl own started (by kernel_rfl) Tryz.func6
    (OpenSpec.witness (enc := enc) (C := Tryz.checked) (s := Rows.OpenSpec.upto Rows.pikeMoreSpec) (k := Rows.uptoSmall) rfl false ⟨#[], #[.slice none 0 0, .agg #[.slice none 0 0, .slice none 0 0], .agg #[.int .i64 0, .int .i64 0]], []⟩ 8 (by kernel_rfl) (by kernel_rfl) (by kernel_rfl)
      (x := ([.nil, .agg [.nil, .nil], .agg [.lit (.int .i64 0), .lit (.int .i64 0)]], [], [])) (by kernel_rfl) rfl (by kernel_rfl)) ?_
  intro W base args ds gs before hval hW _ hk _
  exact contract H enc W base args ds gs before hval hW hk
theorem over : Rows.pikeMoreUptoRow.holds Tryz.pinned (Rows.OpenSpec.upto Rows.pikeMoreSpec) :=
  OpenClaim.holds_of_cond 6 Tryz.f6 rfl rfl rfl rfl rfl rfl rfl ⟨rfl, rfl, rfl, rfl, rfl⟩ rfl rfl rfl rfl rfl (by kernel_rfl) Tryz.func6 (by kernel_rfl)
    (of_decide_eq_true (by kernel_rfl)) (by unfold Func.isWrapper; first | (rw [if_pos (by decide +kernel)]; kernel_rfl) | (rw [if_neg (by decide +kernel)]; exact ⟨rfl, rfl⟩))
    (fun os started H enc _ F => lifted os started H enc F)
theorem proved : Rows.PikeMoreUptoSaid :=
  over
end pikeMore
namespace pikeShifts
theorem told (v : PDen (roPs [TG, TX, TB])) (hf : fitsAll [TG, TX, TB] v) (h : bulkVs [TG, TX, TB] v ≤ 1048576) : lShifts v.1 v.2.1 v.2.2.1 = some ((), (true, ())) := by
  have hb : bulkV TG v.1 + bulkV TX v.2.1 + bulkV TB v.2.2.1 ≤ 1048576 := by simp only [bulkVs] at h; omega
  exact lShifts_w v.1 v.2.1 v.2.2.1 (okG v.1 (by omega)) (okX v.2.1 (by omega)) (okB v.2.2.1 (by omega))
theorem reads {H : Type} : ∀ ds : List (DataW H), ds.length = 3 → Rows.pikeShiftsSpec.fn H ds = { results := [.lit (.bool true)], args := ds }
  | [d1, d2, d3], _ => rfl
theorem contract (H : Type) (enc : TypeId × Value → H) (W : World) (base : Nat) (args : Array Value) (ds gs : List (DataW H)) (before : List MemPlace)
    (hval : ∀ (j : Nat) t v, Tryz.f7.params[j]? = some t → args[j]? = some v → Value.okWide Tryz.prog W .any base t v)
    (hW : DataW.Whole enc Tryz.prog Tryz.f7.params.toList Rows.pikeShiftsSpec.vars false W args.toList ds gs before) (hk : Rows.uptoSmall H (ds ++ gs) = true) :
    Calls Tryz.prog 7 args W fun e W' => ∃ v, e = .returned v ∧ Rows.pikeShiftsSpec.post enc Tryz.prog Tryz.f7 false true false false W args v W' :=
  law_calls (c := lShifts_c) (Ts := [TG, TX, TB]) (ts := Tryz.f7.params.toList) (m := ()) (bt := 4) (N := 1048576) lShifts_ok (fun v hf hb => told v hf hb) laid rfl (by kernel_rfl) (by kernel_rfl) (by kernel_rfl) rfl (fun ds h => reads ds h) hval hW (bulkSmall hk)
theorem lifted (os : Os) (started : os.Started) (H : Type) (enc : TypeId × Value → H) (F : Stop.Interp) :
    ReturnsInHanded {} Tryz.checked os 7 .any ((Rows.OpenSpec.upto Rows.pikeShiftsSpec).pre6 enc Tryz.prog Tryz.f7 Rows.pikeShiftsUptoRow.domain false) (((Rows.OpenSpec.upto Rows.pikeShiftsSpec).at F).post enc Tryz.prog Tryz.f7 false true false false) := by
  refine returnsInHanded_of_cond (C := Tryz.checked) (s := Rows.OpenSpec.upto Rows.pikeShiftsSpec) (k := Rows.uptoSmall) rfl own started (by kernel_rfl) Tryz.func7
    (OpenSpec.witness (enc := enc) (C := Tryz.checked) (s := Rows.OpenSpec.upto Rows.pikeShiftsSpec) (k := Rows.uptoSmall) rfl false ⟨#[], #[.slice none 0 0, .slice none 0 0, .agg #[.int .i64 0, .int .i64 0]], []⟩ 8 (by kernel_rfl) (by kernel_rfl) (by kernel_rfl)
      (x := ([.nil, .nil, .agg [.lit (.int .i64 0), .lit (.int .i64 0)]], [], [])) (by kernel_rfl) rfl (by kernel_rfl)) ?_
  intro W base args ds gs before hval hW _ hk _
  exact contract H enc W base args ds gs before hval hW hk
theorem over : Rows.pikeShiftsUptoRow.holds Tryz.pinned (Rows.OpenSpec.upto Rows.pikeShiftsSpec) :=
  OpenClaim.holds_of_cond 7 Tryz.f7 rfl rfl rfl rfl rfl rfl rfl ⟨rfl, rfl, rfl, rfl, rfl⟩ rfl rfl rfl rfl rfl (by kernel_rfl) Tryz.func7 (by kernel_rfl)
    (of_decide_eq_true (by kernel_rfl)) (by unfold Func.isWrapper; first | (rw [if_pos (by decide +kernel)]; kernel_rfl) | (rw [if_neg (by decide +kernel)]; exact ⟨rfl, rfl⟩))
    (fun os started H enc _ F => lifted os started H enc F)
theorem proved : Rows.PikeShiftsUptoSaid :=
  over
end pikeShifts
namespace pikeApart
theorem told (v : PDen (roPs [TG, TX])) (hf : fitsAll [TG, TX] v) (h : bulkVs [TG, TX] v ≤ 1048576) : lApart v.1 v.2.1 = some ((), (true, ())) := by
  have hb : bulkV TG v.1 + bulkV TX v.2.1 ≤ 1048576 := by simp only [bulkVs] at h; omega
  exact lApart_w v.1 v.2.1 (okG v.1 (by omega)) (okX v.2.1 (by omega))
theorem reads {H : Type} : ∀ ds : List (DataW H), ds.length = 2 → Rows.pikeApartSpec.fn H ds = { results := [.lit (.bool true)], args := ds }
  | [d1, d2], _ => rfl
theorem contract (H : Type) (enc : TypeId × Value → H) (W : World) (base : Nat) (args : Array Value) (ds gs : List (DataW H)) (before : List MemPlace)
    (hval : ∀ (j : Nat) t v, Tryz.f8.params[j]? = some t → args[j]? = some v → Value.okWide Tryz.prog W .any base t v)
    (hW : DataW.Whole enc Tryz.prog Tryz.f8.params.toList Rows.pikeApartSpec.vars false W args.toList ds gs before) (hk : Rows.uptoSmall H (ds ++ gs) = true) :
    Calls Tryz.prog 8 args W fun e W' => ∃ v, e = .returned v ∧ Rows.pikeApartSpec.post enc Tryz.prog Tryz.f8 false true false false W args v W' :=
  law_calls (c := lApart_c) (Ts := [TG, TX]) (ts := Tryz.f8.params.toList) (m := ()) (bt := 4) (N := 1048576) lApart_ok (fun v hf hb => told v hf hb) laid rfl (by kernel_rfl) (by kernel_rfl) (by kernel_rfl) rfl (fun ds h => reads ds h) hval hW (bulkSmall hk)
theorem lifted (os : Os) (started : os.Started) (H : Type) (enc : TypeId × Value → H) (F : Stop.Interp) :
    ReturnsInHanded {} Tryz.checked os 8 .any ((Rows.OpenSpec.upto Rows.pikeApartSpec).pre6 enc Tryz.prog Tryz.f8 Rows.pikeApartUptoRow.domain false) (((Rows.OpenSpec.upto Rows.pikeApartSpec).at F).post enc Tryz.prog Tryz.f8 false true false false) := by
  refine returnsInHanded_of_cond (C := Tryz.checked) (s := Rows.OpenSpec.upto Rows.pikeApartSpec) (k := Rows.uptoSmall) rfl own started (by kernel_rfl) Tryz.func8
    (OpenSpec.witness (enc := enc) (C := Tryz.checked) (s := Rows.OpenSpec.upto Rows.pikeApartSpec) (k := Rows.uptoSmall) rfl false ⟨#[], #[.slice none 0 0, .slice none 0 0], []⟩ 8 (by kernel_rfl) (by kernel_rfl) (by kernel_rfl)
      (x := ([.nil, .nil], [], [])) (by kernel_rfl) rfl (by kernel_rfl)) ?_
  intro W base args ds gs before hval hW _ hk _
  exact contract H enc W base args ds gs before hval hW hk
theorem over : Rows.pikeApartUptoRow.holds Tryz.pinned (Rows.OpenSpec.upto Rows.pikeApartSpec) :=
  OpenClaim.holds_of_cond 8 Tryz.f8 rfl rfl rfl rfl rfl rfl rfl ⟨rfl, rfl, rfl, rfl, rfl⟩ rfl rfl rfl rfl rfl (by kernel_rfl) Tryz.func8 (by kernel_rfl)
    (of_decide_eq_true (by kernel_rfl)) (by unfold Func.isWrapper; first | (rw [if_pos (by decide +kernel)]; kernel_rfl) | (rw [if_neg (by decide +kernel)]; exact ⟨rfl, rfl⟩))
    (fun os started H enc _ F => lifted os started H enc F)
theorem proved : Rows.PikeApartUptoSaid :=
  over
end pikeApart
end Go.Proofs.YtfmhkcidechgdaaGreat
