/- Value semantics, part 2: parts of a value in memory, and one type for another. -/
import Derived.Test.YtfklhbmicfammaaVsBase
set_option linter.unusedVariables false
namespace Go.Vs
open Go

structure Lens (T : Ty) where
  t : Ty
  g : T.den → t.den
  p : T.den → t.den → T.den

def comp : (T : Ty) → Nat → Nat → Bool → Option (Lens T)
  | .st t, off, sz, agg => if off == 0 && sz == t.size && agg then some ⟨.st t, fun x => x, fun _ y => y⟩ else (comp t off sz agg).map fun l => ⟨l.t, l.g, l.p⟩
  | .pair a b, off, sz, agg =>
    if off + sz ≤ a.size then (comp a off sz agg).map fun l => ⟨l.t, fun x => l.g x.1, fun x y => (l.p x.1 y, x.2)⟩
    else if a.size ≤ off then (comp b (off - a.size) sz agg).map fun l => ⟨l.t, fun x => l.g x.2, fun x y => (x.1, l.p x.2 y)⟩
    else none
  | .unit, _, _, _ => none
  | .tup _, _, _, _ => none
  | T, off, sz, agg => if off == 0 && sz == 1 && !agg then some ⟨T, fun x => x, fun _ y => y⟩ else none

theorem leaf_law {F : Nat → Prop} {m : Nat → Nat → Option Value} {ρ : Nat → Option RI} {T : Ty} {off sz : Nat} {agg : Bool} {l : Lens T}
    (hT : T.size = 1) (hs : isSt T = false)
    (h : (if off == 0 && sz == 1 && !agg then some (⟨T, fun x => x, fun _ y => y⟩ : Lens T) else none) = some l) (v : T.den) (cs : List Value) (hr : Rep F m ρ T v cs) :
    sz = l.t.size ∧ isSt l.t = agg ∧ ∃ c1 c2 c3, cs = c1 ++ c2 ++ c3 ∧ c1.length = off ∧ Rep F m ρ l.t (l.g v) c2 ∧
      ∀ y d2, Rep F m ρ l.t y d2 → Rep F m ρ T (l.p v y) (c1 ++ d2 ++ c3) := by
  split at h
  · rename_i hc
    simp only [Bool.and_eq_true, beq_iff_eq, Bool.not_eq_true'] at hc
    cases h
    exact ⟨by rw [hc.1.2, hT], by rw [hs, hc.2], [], cs, [], by simp, by simp [hc.1.1], hr, fun y d2 h => by simpa using h⟩
  · cases h

theorem comp_law {F : Nat → Prop} {m : Nat → Nat → Option Value} {ρ : Nat → Option RI} : ∀ (T : Ty) (off sz : Nat) (agg : Bool) (l : Lens T), comp T off sz agg = some l → ∀ (v : T.den) (cs : List Value), Rep F m ρ T v cs →
    sz = l.t.size ∧ isSt l.t = agg ∧ ∃ c1 c2 c3, cs = c1 ++ c2 ++ c3 ∧ c1.length = off ∧ Rep F m ρ l.t (l.g v) c2 ∧
      ∀ y d2, Rep F m ρ l.t y d2 → Rep F m ρ T (l.p v y) (c1 ++ d2 ++ c3)
  | .st t, off, sz, agg, l, h, v, cs, hr => by
    simp only [comp] at h
    split at h
    · rename_i hc
      simp only [Bool.and_eq_true, beq_iff_eq] at hc
      cases h
      exact ⟨by simp [hc.1.2, Ty.size], by simp [isSt, hc.2], [], cs, [], by simp, by simp [hc.1.1], hr, fun y d2 h => by simpa using h⟩
    · cases hk : comp t off sz agg with
      | none => simp [hk] at h
      | some l' =>
        simp only [hk, Option.map_some, Option.some.injEq] at h
        subst h
        exact comp_law t off sz agg l' hk v cs hr
  | .pair a b, off, sz, agg, l, h, v, cs, ⟨d1, d2, e, h1, h2⟩ => by
    subst e
    have l1 := Rep.length a _ _ h1
    simp only [comp] at h
    split at h
    · cases hk : comp a off sz agg with
      | none => simp [hk] at h
      | some l' =>
        simp only [hk, Option.map_some, Option.some.injEq] at h
        subst h
        obtain ⟨s1, s2, c1, c2, c3, e, hl, hr, hp⟩ := comp_law a off sz agg l' hk v.1 d1 h1
        refine ⟨s1, s2, c1, c2, c3 ++ d2, by simp [e], hl, hr, fun y x hy => ⟨c1 ++ x ++ c3, d2, by simp, hp y x hy, h2⟩⟩
    · split at h
      · cases hk : comp b (off - a.size) sz agg with
        | none => simp [hk] at h
        | some l' =>
          simp only [hk, Option.map_some, Option.some.injEq] at h
          subst h
          obtain ⟨s1, s2, c1, c2, c3, e, hl, hr, hp⟩ := comp_law b (off - a.size) sz agg l' hk v.2 d2 h2
          refine ⟨s1, s2, d1 ++ c1, c2, c3, by simp [e], by simp [hl, l1]; omega, hr, fun y x hy => ⟨d1, c1 ++ x ++ c3, by simp, h1, hp y x hy⟩⟩
      · cases h
  | .unit, off, sz, agg, l, h, v, cs, hr => by simp [comp] at h
  | .tup _, off, sz, agg, l, h, v, cs, hr => by simp [comp] at h
  | .int _, off, sz, agg, l, h, v, cs, hr => leaf_law rfl rfl h v cs hr
  | .bool, off, sz, agg, l, h, v, cs, hr => leaf_law rfl rfl h v cs hr
  | .str, off, sz, agg, l, h, v, cs, hr => leaf_law rfl rfl h v cs hr
  | .slice _, off, sz, agg, l, h, v, cs, hr => leaf_law rfl rfl h v cs hr
  | .ptr _, off, sz, agg, l, h, v, cs, hr => leaf_law rfl rfl h v cs hr
  | .rad _ _, off, sz, agg, l, h, v, cs, hr => leaf_law rfl rfl h v cs hr
  | .ow _, off, sz, agg, l, h, v, cs, hr => leaf_law rfl rfl h v cs hr
  | .osl _, off, sz, agg, l, h, v, cs, hr => leaf_law rfl rfl h v cs hr
  | .oad _ _, off, sz, agg, l, h, v, cs, hr => leaf_law rfl rfl h v cs hr
  | .clo _ _, off, sz, agg, l, h, v, cs, hr => leaf_law rfl rfl h v cs hr
  | .nils, off, sz, agg, l, h, v, cs, hr => leaf_law rfl rfl h v cs hr
  | .nilp, off, sz, agg, l, h, v, cs, hr => leaf_law rfl rfl h v cs hr
  | .any, off, sz, agg, l, h, v, cs, hr => leaf_law rfl rfl h v cs hr

/- - a value of one type as one of another that lies in memory alike -/
def coe : (s : Ty) → s.den → (d : Ty) → Option d.den
  | .nils, _, .slice t => some []
  | .nilp, _, .ptr t => some none
  | .rad t 0, v, .ptr t' => if h : t = t' then some (some (h ▸ v)) else none
  | .st a, v, .st b => coe a v b
  | .pair a b, v, .pair a' b' => match coe a v.1 a', coe b v.2 b' with
    | some x, some y => some (x, y)
    | _, _ => none
  | s, v, d => if h : s = d then some (h ▸ v) else none

theorem coe_same {s : Ty} {v : s.den} {d : Ty} {v' : d.den} (h : (if h : s = d then some (h ▸ v) else none) = some v') (P : (t : Ty) → t.den → Prop) (hp : P s v) : P d v' := by
  split at h
  · rename_i e; subst e; cases h; exact hp
  · cases h

theorem coe_law {F : Nat → Prop} {m : Nat → Nat → Option Value} {ρ : Nat → Option RI} (s : Ty) (v : s.den) (d : Ty) (v' : d.den) (cs : List Value) : coe s v d = some v' → Rep F m ρ s v cs → Rep F m ρ d v' cs := by
  fun_induction coe s v d generalizing cs with
  | case1 => intro h hr; cases h; cases hr; exact ⟨none, 0, 0, rfl, rfl, Nat.le_refl _, fun h => absurd rfl h⟩
  | case2 => intro h hr; cases h; cases hr; exact .inl ⟨rfl, rfl⟩
  | case3 t v =>
    intro h' hr; cases h'
    obtain ⟨p, ds, ec, hp, h1, h2⟩ := hr
    exact .inr ⟨v, p, ds, rfl, ec, hp, h1, h2⟩
  | case4 => intro h hr; cases h
  | case5 a v b ih => exact ih v' cs
  | case6 =>
    rename_i ih1 ih2
    intro h hr
    cases h
    obtain ⟨c1, c2, e, h1, h2⟩ := hr
    first
      | exact ⟨c1, c2, e, ih1 _ _ (by assumption) h1, ih2 _ _ (by assumption) h2⟩
      | exact ⟨c1, c2, e, ih2 _ _ (by assumption) h1, ih1 _ _ (by assumption) h2⟩
  | case7 => intro h hr; cases h
  | case8 => intro h hr; cases h; exact hr
  | case9 => intro h hr; cases h

end Go.Vs
