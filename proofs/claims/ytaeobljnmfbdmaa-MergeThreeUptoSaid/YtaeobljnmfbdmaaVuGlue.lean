/- Value semantics, part 29: arguments as they are read are values. -/
import Derived.Test.YtaeobljnmfbdmaaVuTab
import GoSem.ClaimJoined
import Derived.OpenShut
set_option linter.unusedVariables false
namespace Go.Vu
open Go
variable {P : Program} {w : World}
def arrF (P : Program) (n e : Nat) : List Field := (List.range n).map fun i => { (default : Field) with type := e, offset := i * P.cellsOf e }
def tyB (P : Program) : Nat → Ty → (TypeId ⊕ (List Field × Nat)) → Bool
 | 0, _, _ => false
 | n + 1, T, .inl t => match T with
  | .int k => (match P.underlying t with | some (.int k') => decide (k' = k) | _ => false)
  | .bool => (match P.underlying t with | some .bool => true | _ => false)
  | .str => (match P.underlying t with | some .string => true | _ => false)
  | .slice U => (match P.underlying t with | some (.slice e) => decide (P.cellsOf e = U.size) && decide (0 < U.size) && tyB P n U (.inl e) | _ => false)
  | .st U => (match P.underlying t with
   | some (.struct fs) => decide (P.cellsOf t = U.size) && tyB P n U (.inr (fs.toList, 0))
   | some (.array m e) => decide (P.cellsOf t = U.size) && tyB P n U (.inr (arrF P m e, 0))
   | _ => false)
  | _ => false
 | n + 1, T, .inr ([f], off) => decide (f.offset = off) && decide (P.cellsOf f.type = T.size) && tyB P n T (.inl f.type)
 | n + 1, T, .inr (f :: g :: r, off) => match T with
  | .pair a b => decide (f.offset = off) && decide (P.cellsOf f.type = a.size) && tyB P n a (.inl f.type) && tyB P n b (.inr (g :: r, off + a.size))
  | _ => false
 | n + 1, T, .inr ([], _) => match T with
  | .unit => true
  | _ => false
def okI (k : IntKind) (n : Int) : Prop := k.min ≤ n ∧ n ≤ k.max
def fits : (T : Ty) → T.den → Prop
 | .int k, n => okI k n
 | .slice T, xs => ∀ x ∈ xs, fits T x
 | .st T, v => fits T v
 | .pair a b, v => fits a v.1 ∧ fits b v.2
 | _, _ => True
mutual
def bulk {H : Type} : DataW H → Nat
 | .lit (.string bytes) => bytes.length + 1
 | .lit _ => 1
 | .nil => 1
 | .ptr d => bulk d + 1
 | .slice elems spare => bulkAll elems + bulkAll spare + 1
 | .agg parts => bulkAll parts + 1
 | .iface _ d => bulk d + 1
 | .map entries => bulkEntries entries + 1
 | .held _ => 1
def bulkAll {H : Type} : List (DataW H) → Nat
 | [] => 0
 | d :: r => bulk d + bulkAll r
def bulkEntries {H : Type} : List (Lit × DataW H) → Nat
 | [] => 0
 | x :: r => bulkEntry x + bulkEntries r
def bulkEntry {H : Type} : Lit × DataW H → Nat
 | (.string bytes, d) => bytes.length + bulk d + 1
 | (_, d) => bulk d + 1
end
def sumN {α : Type} (f : α → Nat) : List α → Nat
 | [] => 0
 | x :: l => f x + sumN f l
def bulkV : (T : Ty) → T.den → Nat
 | .str, s => List.length s + 1
 | .slice T, xs => sumN (bulkV T) xs + 1
 | .st T, v => bulkV T v + 1
 | .pair a b, v => bulkV a v.1 + bulkV b v.2
 | .unit, _ => 0
 | _, _ => 1
theorem mapM_some {α β : Type} {f : α → Option β} : ∀ (l : List α) (ys : List β), l.mapM f = some ys → ys.length = l.length ∧ ∀ (i : Nat) (a : α), l[i]? = some a → ∃ y, ys[i]? = some y ∧ f a = some y
 | [], ys, h => by
  simp only [List.mapM_nil, Option.pure_def, Option.some.injEq] at h
  subst h
  exact ⟨rfl, fun i a h => by simp at h⟩
 | x :: l, ys, h => by
  rw [List.mapM_cons] at h
  cases hx : f x with
  | none => rw [hx] at h; simp at h
  | some y =>
   cases hl : l.mapM f with
   | none => rw [hx, hl] at h; simp at h
   | some zs =>
    rw [hx, hl] at h
    simp only [Option.bind_eq_bind, Option.bind_some, Option.pure_def, Option.some.injEq] at h
    subst h
    obtain ⟨h1, h2⟩ := mapM_some l zs hl
    refine ⟨by simp [h1], fun i a hi => ?_⟩
    cases i with
    | zero => simp only [List.getElem?_cons_zero, Option.some.injEq] at hi; subst hi; exact ⟨y, rfl, hx⟩
    | succ i => exact h2 i a (by simpa using hi)
theorem bulkAll_mem {H : Type} {d : DataW H} {l : List (DataW H)} (h : d ∈ l) : bulk d ≤ bulkAll l := by
 induction l with
 | nil => cases h
 | cons x l ih =>
  simp only [bulkAll]
  rcases List.mem_cons.1 h with rfl | h
  ·omega
  ·have := ih h; omega
theorem build_list {A : Type} {H : Type} {n : Nat} {Q : Nat → A → Prop} {f : A → Nat} {ds : List (DataW H)} (hl : ds.length = n) (h : ∀ i, i < n → ∃ x, Q i x ∧ ∀ d, ds[i]? = some d → f x ≤ bulk d) :
  ∃ xs : List A, xs.length = n ∧ (∀ (i : Nat) x, xs[i]? = some x → Q i x) ∧ sumN f xs ≤ bulkAll ds := by
 induction n generalizing Q ds with
 | zero => exact ⟨[], rfl, fun i x h => by simp at h, by simp [sumN]⟩
 | succ n ih =>
  cases ds with
  | nil => simp at hl
  | cons d ds =>
   obtain ⟨x, hx, hd⟩ := h 0 (by omega)
   obtain ⟨xs, h1, h2, h3⟩ := ih (Q := fun i => Q (i + 1)) (ds := ds) (by simpa using hl) (fun i hi => by
    obtain ⟨y, hy, hd⟩ := h (i + 1) (by omega)
    exact ⟨y, hy, fun d hd' => hd d (by simpa using hd')⟩)
   refine ⟨x :: xs, by simp [h1], fun i y hi => ?_, ?_⟩
   ·cases i with
    | zero => simp only [List.getElem?_cons_zero, Option.some.injEq] at hi; subst hi; exact hx
    | succ i => exact h2 i y (by simpa using hi)
   ·simp only [sumN, bulkAll]
    have := hd d (by simp)
    omega
theorem cells_at {base n : Nat} {a : Addr} {cs : List Value} (h : w.cells? base a n = some cs) : cs.length = n ∧ ∀ (j : Nat) v, cs[j]? = some v → w.cell? (a.add j) = some v := by
 unfold World.cells? at h
 split at h
 ·obtain ⟨h1, h2⟩ := mapM_some _ _ h
  simp only [List.length_range] at h1
  refine ⟨h1, fun j v hj => ?_⟩
  have hlt : j < n := by
   rcases Nat.lt_or_ge j cs.length with h | h
   ·omega
   ·rw [List.getElem?_eq_none h] at hj; cases hj
  obtain ⟨y, hy, hf⟩ := h2 j j (by simp [hlt])
  rw [hj] at hy; cases hy
  exact hf
 ·cases h
def allB (w : World) (b : Nat) : Prop := b < w.heap.size
section
variable {H : Type} {enc : TypeId × Value → H} {base : Nat} {spare : Nat → Bool} {held : Bool} {fuel : Nat} {t e : TypeId} {cs : List Value} {x : DataW H × List MemPlace} {k : IntKind} {fs : Array Field}
theorem trod_int (hu : P.underlying t = some (.int k)) (h : DataW.trod enc P w base spare held (fuel + 1) t cs = some x) : ∃ n, cs = [.int k n] ∧ okI k n ∧ bulk x.1 = 1 := by
 unfold DataW.trod at h
 rw [hu] at h
 split at h <;> first | (simp_all; done) | skip
 rename_i k1 k2 n e1
 split at h
 ·rename_i hw
  cases e1
  cases h
  obtain ⟨rfl, hw⟩ := hw
  simp only [Lit.wf, Bool.and_eq_true, decide_eq_true_eq] at hw
  exact ⟨n, rfl, hw, by simp [bulk]⟩
 ·cases h
theorem trod_bool (hu : P.underlying t = some .bool) (h : DataW.trod enc P w base spare held (fuel + 1) t cs = some x) : ∃ b, cs = [.bool b] ∧ bulk x.1 = 1 := by
 unfold DataW.trod at h
 rw [hu] at h
 split at h <;> first | (simp_all; done) | skip
 cases h
 exact ⟨_, rfl, by simp [bulk]⟩
theorem trod_str (hu : P.underlying t = some .string) (h : DataW.trod enc P w base spare held (fuel + 1) t cs = some x) : ∃ s, cs = [.string s] ∧ bulk x.1 = s.data.toList.length + 1 := by
 unfold DataW.trod at h
 rw [hu] at h
 split at h <;> first | (simp_all; done) | skip
 split at h
 ·cases h
  exact ⟨_, rfl, by simp [bulk]⟩
 ·cases h
theorem trod_st (hu : P.underlying t = some (.struct fs)) (h : DataW.trod enc P w base spare held (fuel + 1) t cs = some x) : cs.length = P.cellsOf t ∧
  ∃ xs, (fs.toList.mapM fun f => DataW.trod enc P w base spare held fuel f.type ((cs.drop f.offset).take (P.cellsOf f.type))) = some xs ∧ bulk x.1 = bulkAll (xs.map (·.1)) + 1 := by
 unfold DataW.trod at h
 rw [hu] at h
 split at h <;> first | (simp_all; done) | skip
 rename_i e1
 cases e1
 rename_i cs _ _
 split at h
 ·rename_i hsz
  cases hm : (fs.toList.mapM fun f => DataW.trod enc P w base spare held fuel f.type ((cs.drop f.offset).take (P.cellsOf f.type))) with
  | none => rw [hm] at h; cases h
  | some xs =>
   rw [hm] at h
   simp only [Option.map_some, Option.some.injEq] at h
   subst h
   exact ⟨hsz, xs, rfl, by simp [bulk]⟩
 ·cases h
theorem trod_arr {m : Nat} (hu : P.underlying t = some (.array m e)) (h : DataW.trod enc P w base spare held (fuel + 1) t cs = some x) : cs.length = P.cellsOf t ∧
  ∃ xs, ((arrF P m e).mapM fun f => DataW.trod enc P w base spare held fuel f.type ((cs.drop f.offset).take (P.cellsOf f.type))) = some xs ∧ bulk x.1 = bulkAll (xs.map (·.1)) + 1 := by
 unfold DataW.trod at h
 rw [hu] at h
 split at h <;> first | (simp_all; done) | skip
 rename_i e1
 cases e1
 rename_i cs _ _
 split at h
 ·rename_i hsz
  have key : ((arrF P m e).mapM fun f => DataW.trod enc P w base spare held fuel f.type ((cs.drop f.offset).take (P.cellsOf f.type))) = (List.range m).mapM fun i => DataW.trod enc P w base spare held fuel e ((cs.drop (i * P.cellsOf e)).take (P.cellsOf e)) := by
   simp only [arrF, List.mapM_map]
   rfl
  rw [key]
  cases hm : ((List.range m).mapM fun i => DataW.trod enc P w base spare held fuel e ((cs.drop (i * P.cellsOf e)).take (P.cellsOf e))) with
  | none => rw [hm] at h; cases h
  | some xs =>
   rw [hm] at h
   simp only [Option.map_some, Option.some.injEq] at h
   subst h
   exact ⟨hsz, xs, rfl, by simp [bulk]⟩
 ·cases h
theorem trod_slice (hu : P.underlying t = some (.slice e)) (h : DataW.trod enc P w base spare held (fuel + 1) t cs = some x) : cs = [.slice none 0 0] ∨
  ∃ (a : Addr) (len cap : Nat) (elems : List (DataW H × List MemPlace)) (rest : List (DataW H)), cs = [.slice (some a) len cap] ∧ base ≤ a.block ∧ len ≤ cap ∧
   ((List.range len).mapM fun i => (w.cells? base (a.add (i * P.cellsOf e)) (P.cellsOf e)).bind (DataW.trod enc P w base spare held fuel e)) = some elems ∧
   bulk x.1 = bulkAll (elems.map (·.1)) + bulkAll rest + 1 := by
 unfold DataW.trod at h
 rw [hu] at h
 split at h <;> first | (simp_all; done) | skip
 rename_i e' a len cap e1
 cases e1
 right
 split at h
 ·rename_i hc
  obtain ⟨h1, hlc, _⟩ := hc
  dsimp only at h
  cases hm : ((List.range len).mapM fun i => (w.cells? base (a.add (i * P.cellsOf e)) (P.cellsOf e)).bind (DataW.trod enc P w base spare held fuel e)) with
  | none => rw [hm] at h; cases h
  | some elems =>
   rw [hm] at h
   simp only [Option.bind_some] at h
   cases hr : (if spare a.block = true then (List.range (cap - len)).mapM fun j => (w.cells? base (a.add ((len + j) * P.cellsOf e)) (P.cellsOf e)).bind (DataW.trod enc P w base spare held fuel e) else some []) with
   | none => rw [hr] at h; cases h
   | some rest =>
    rw [hr] at h
    simp only [Option.map_some, Option.some.injEq] at h
    subst h
    exact ⟨a, len, cap, elems, rest.map (·.1), rfl, h1, hlc, hm, by simp [bulk]⟩
 ·cases h
end
theorem open_law {H : Type} {enc : TypeId × Value → H} {base : Nat} {spare : Nat → Bool} {held : Bool} : ∀ (n : Nat) (T : Ty),
  (∀ (t : TypeId) (fuel : Nat) (cs : List Value) (x : DataW H × List MemPlace), tyB P n T (.inl t) = true → DataW.trod enc P w base spare held fuel t cs = some x →
   ∃ v : T.den, Rep (allB w) (mem w) ρ0 T v cs ∧ fits T v ∧ bulkV T v ≤ bulk x.1) ∧
  (∀ (fs : List Field) (off fuel : Nat) (cs : List Value) (xs : List (DataW H × List MemPlace)), tyB P n T (.inr (fs, off)) = true → cs.length = off + T.size →
   (fs.mapM fun f => DataW.trod enc P w base spare held fuel f.type ((cs.drop f.offset).take (P.cellsOf f.type))) = some xs →
   ∃ v : T.den, Rep (allB w) (mem w) ρ0 T v (cs.drop off) ∧ fits T v ∧ bulkV T v ≤ bulkAll (xs.map (·.1)))
 | 0, T => ⟨fun t fuel cs x h => by simp [tyB] at h, fun fs off fuel cs xs h => by cases fs <;> simp [tyB] at h⟩
 | n + 1, T => by
  refine ⟨fun t fuel cs x ht h => ?_, fun fs off fuel cs xs ht hl h => ?_⟩
  ·cases fuel with
   | zero => simp [DataW.trod] at h
   | succ fuel =>
    simp only [tyB] at ht
    cases T <;> simp only [Bool.false_eq_true] at ht
    ·split at ht
     ·rename_i hu
      simp only [decide_eq_true_eq] at ht
      subst ht
      obtain ⟨m, rfl, h1, h2⟩ := trod_int hu h
      exact ⟨m, rfl, h1, by rw [h2]; exact Nat.le_refl _⟩
     ·cases ht
    ·split at ht
     ·rename_i hu
      obtain ⟨m, rfl, h2⟩ := trod_bool hu h
      exact ⟨m, rfl, trivial, by rw [h2]; exact Nat.le_refl _⟩
     ·cases ht
    ·split at ht
     ·rename_i hu
      obtain ⟨s, rfl, h2⟩ := trod_str hu h
      exact ⟨s.data.toList, by simp [Rep], trivial, by rw [h2]; exact Nat.le_refl _⟩
     ·cases ht
    ·rename_i U
     split at ht
     ·rename_i fs hu
      simp only [Bool.and_eq_true, decide_eq_true_eq] at ht
      obtain ⟨hsz, xs, hm, hb⟩ := trod_st hu h
      obtain ⟨v, h1, h2, h3⟩ := (open_law n U).2 fs.toList 0 fuel cs xs ht.2 (by rw [hsz, ht.1]; simp) hm
      exact ⟨v, by rw [List.drop_zero] at h1; exact h1, h2, by rw [hb]; simp only [bulkV]; omega⟩
     ·rename_i m e hu
      simp only [Bool.and_eq_true, decide_eq_true_eq] at ht
      obtain ⟨hsz, xs, hm, hb⟩ := trod_arr hu h
      obtain ⟨v, h1, h2, h3⟩ := (open_law n U).2 (arrF P m e) 0 fuel cs xs ht.2 (by rw [hsz, ht.1]; simp) hm
      exact ⟨v, by rw [List.drop_zero] at h1; exact h1, h2, by rw [hb]; simp only [bulkV]; omega⟩
     ·cases ht
    ·rename_i U
     split at ht
     ·rename_i e hu
      simp only [Bool.and_eq_true, decide_eq_true_eq] at ht
      rcases trod_slice hu h with rfl | ⟨a, len, cap, elems, rest, rfl, hba, hlc, hm, hb⟩
      ·refine ⟨([] : List U.den), ⟨none, 0, 0, rfl, rfl, Nat.le_refl _, fun h => absurd rfl h⟩, fun x h => (by cases h), ?_⟩
       have : 1 ≤ bulk x.1 := by
        cases hx : x.1 with
        | lit l => cases l <;> simp [bulk]
        | _ => simp [bulk]
       simpa [bulkV, sumN] using this
      ·obtain ⟨g1, g2⟩ := mapM_some _ _ hm
       simp only [List.length_range] at g1
       have key : ∀ i, i < len → ∃ y : U.den, ((∃ ds, (∀ (j : Nat) v, ds[j]? = some v → w.cell? ((a.add (i * U.size)).add j) = some v) ∧ ds.length = U.size ∧ Rep (allB w) (mem w) ρ0 U y ds) ∧ fits U y) ∧ ∀ d, (elems.map (·.1))[i]? = some d → bulkV U y ≤ bulk d := by
        intro i hi
        obtain ⟨z, hz, hf⟩ := g2 i i (by simp [hi])
        cases hcl : w.cells? base (a.add (i * P.cellsOf e)) (P.cellsOf e) with
        | none => rw [hcl] at hf; cases hf
        | some ds =>
         rw [hcl] at hf
         simp only [Option.bind_some] at hf
         obtain ⟨c1, c2⟩ := cells_at hcl
         obtain ⟨y, y1, y2, y3⟩ := (open_law n U).1 e fuel ds z ht.2 hf
         refine ⟨y, ⟨⟨ds, fun j v hj => ?_, by rw [c1, ht.1.1], y1⟩, y2⟩, fun d hd => ?_⟩
         ·rw [← c2 j v hj, ht.1.1]
         ·rw [List.getElem?_map, hz] at hd
          cases hd
          exact y3
       obtain ⟨xs, x1, x2, x3⟩ := build_list (by simp [g1]) key
       refine ⟨xs, ?_, fun x hx => ?_, by rw [hb]; simp only [bulkV]; omega⟩
       ·refine ⟨some a, len, cap, rfl, x1.symm, hlc, fun hn => ?_⟩
        obtain ⟨x0, hx0⟩ : ∃ x0, xs[0]? = some x0 := ⟨_, List.getElem?_eq_getElem (by omega)⟩
        obtain ⟨⟨ds0, d1, d2, d3⟩, _⟩ := x2 0 x0 hx0
        by_cases hz : U.size = 0
        ·have := ht.1.2; omega
        ·obtain ⟨v0, hv0⟩ : ∃ v0, ds0[0]? = some v0 := ⟨_, List.getElem?_eq_getElem (by omega)⟩
         have hc0 := d1 0 v0 hv0
         obtain ⟨b, off, spot⟩ := a
         have hspot : spot = none := by simpa [Addr.add] using World.cell?_spot hc0
         subst hspot
         have hlt : b < w.heap.size := mem_lt (b := b) (o := off) (v := v0) (mem_of_cell (by simpa [Addr.add] using hc0))
         refine ⟨(b, off), rfl, hlt, fun i x hi => ?_⟩
         obtain ⟨⟨ds, e1, e2, e3⟩, _⟩ := x2 i x hi
         exact ⟨ds, fun j v hj => by have := e1 j v hj; rw [Go.WideShapes.add_plain, Go.WideShapes.add_plain] at this; exact mem_of_cell this, e3⟩
       ·obtain ⟨i, hi, e⟩ := List.getElem_of_mem hx
        exact (x2 i x (by rw [List.getElem?_eq_getElem hi, e])).2
     ·cases ht
  ·have one : ∀ (f : Field) (a : Ty) (r : List Value), f.offset = off → P.cellsOf f.type = a.size → tyB P n a (.inl f.type) = true → cs.length = off + a.size + r.length → (cs.drop off).drop a.size = r →
     ∀ x, DataW.trod enc P w base spare held fuel f.type ((cs.drop f.offset).take (P.cellsOf f.type)) = some x → ∃ v : a.den, Rep (allB w) (mem w) ρ0 a v ((cs.drop off).take a.size) ∧ fits a v ∧ bulkV a v ≤ bulk x.1 := by
    intro f a r h1 h2 h3 h4 h5 x hx
    rw [h1, h2] at hx
    exact (open_law n a).1 f.type fuel _ x h3 hx
   match fs, ht, h with
   | [], ht, h =>
    simp only [tyB] at ht
    split at ht
    ·simp only [List.mapM_nil, Option.pure_def, Option.some.injEq] at h
     subst h
     refine ⟨(), ?_, trivial, by simp [bulkV]⟩
     exact List.length_eq_zero_iff.1 (by simp [hl, Ty.size])
    ·cases ht
   | [f], ht, h =>
    simp only [tyB, Bool.and_eq_true, decide_eq_true_eq] at ht
    obtain ⟨⟨h1, h2⟩, h3⟩ := ht
    obtain ⟨g1, g2⟩ := mapM_some _ _ h
    obtain ⟨z, hz, hf⟩ := g2 0 f rfl
    obtain ⟨v, v1, v2, v3⟩ := one f T [] h1 h2 h3 (by simpa using hl) (by simp [hl]) z hf
    rw [List.take_of_length_le (by simp [hl])] at v1
    refine ⟨v, v1, v2, Nat.le_trans v3 (bulkAll_mem ?_)⟩
    exact List.mem_map.2 ⟨z, List.mem_of_getElem? hz, rfl⟩
   | f :: g :: r, ht, h =>
    simp only [tyB] at ht
    split at ht
    ·rename_i a b _
     simp only [Bool.and_eq_true, decide_eq_true_eq] at ht
     obtain ⟨⟨⟨h1, h2⟩, h3⟩, h4⟩ := ht
     rw [List.mapM_cons] at h
     cases hx : DataW.trod enc P w base spare held fuel f.type ((cs.drop f.offset).take (P.cellsOf f.type)) with
     | none => rw [hx] at h; simp at h
     | some z =>
      cases hm : (g :: r).mapM fun f => DataW.trod enc P w base spare held fuel f.type ((cs.drop f.offset).take (P.cellsOf f.type)) with
      | none => rw [hx, hm] at h; simp at h
      | some zs =>
       rw [hx, hm] at h
       simp only [Option.bind_eq_bind, Option.bind_some, Option.pure_def, Option.some.injEq] at h
       subst h
       simp only [Ty.size] at hl
       obtain ⟨v, v1, v2, v3⟩ := one f a ((cs.drop off).drop a.size) h1 h2 h3 (by simp [hl]; try omega) rfl z hx
       obtain ⟨u, u1, u2, u3⟩ := (open_law n b).2 (g :: r) (off + a.size) fuel cs zs h4 (by omega) hm
       refine ⟨(v, u), ⟨_, _, (List.take_append_drop a.size _).symm, v1, by rw [List.drop_drop]; exact u1⟩, ⟨v2, u2⟩, by simp only [bulkV, List.map_cons, bulkAll]; omega⟩
    ·cases ht
end Go.Vu
