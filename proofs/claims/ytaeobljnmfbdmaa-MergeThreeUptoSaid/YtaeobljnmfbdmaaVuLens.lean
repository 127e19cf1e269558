/- Value semantics, part 2: parts of a value in memory, and one type for another. -/
import Derived.Test.YtaeobljnmfbdmaaVuBase
set_option linter.unusedVariables false
namespace Go.Vu
open Go
structure Lens (T : Ty) where
 t : Ty
 g : T.den → t.den
 p : T.den → t.den → T.den
def comp : (T : Ty) → Nat → Nat → Bool → Option (Lens T)
 | .st t, off, sz, agg => if off == 0 && sz == t.size && agg then some ⟨.st t, fun x => x, fun _ y => y⟩ else (comp t off sz agg).map fun l => ⟨l.t, l.g, l.p⟩
 | .pair a b, off, sz, agg =>
  if off + sz ≤ a.size then (comp a off sz agg).map fun l => ⟨l.t, fun x => l.g x.1, fun x y => (l.p x.1 y, x.2)⟩
  else if a.size ≤ off then (comp b (off - a.size) sz agg).map fun l => ⟨l.t, fun x => l.g x.2, fun x y => (x.1, l.p x.2 y)⟩
  else none
 | .unit, _, _, _ => none
 | .tup _, _, _, _ => none
 | T, off, sz, agg => if off == 0 && sz == 1 && !agg then some ⟨T, fun x => x, fun _ y => y⟩ else none
theorem leaf_law {F : Nat → Prop} {m : Nat → Nat → Option Value} {ρ : RK → Option RI} {T : Ty} {off sz : Nat} {agg : Bool} {l : Lens T}
  (hT : T.size = 1) (hs : isSt T = false)
  (h : (if off == 0 && sz == 1 && !agg then some (⟨T, fun x => x, fun _ y => y⟩ : Lens T) else none) = some l) (v : T.den) (cs : List Value) (hr : Rep F m ρ T v cs) :
  sz = l.t.size ∧ isSt l.t = agg ∧ ∃ c1 c2 c3, cs = c1 ++ c2 ++ c3 ∧ c1.length = off ∧ Rep F m ρ l.t (l.g v) c2 ∧
   ∀ y d2, Rep F m ρ l.t y d2 → Rep F m ρ T (l.p v y) (c1 ++ d2 ++ c3) := by
 split at h
 ·rename_i hc
  simp only [Bool.and_eq_true, beq_iff_eq, Bool.not_eq_true'] at hc
  cases h
  exact ⟨by rw [hc.1.2, hT], by rw [hs, hc.2], [], cs, [], by simp, by simp [hc.1.1], hr, fun y d2 h => by simpa using h⟩
 ·cases h
theorem comp_law {F : Nat → Prop} {m : Nat → Nat → Option Value} {ρ : RK → Option RI} : ∀ (T : Ty) (off sz : Nat) (agg : Bool) (l : Lens T), comp T off sz agg = some l → ∀ (v : T.den) (cs : List Value), Rep F m ρ T v cs →
  sz = l.t.size ∧ isSt l.t = agg ∧ ∃ c1 c2 c3, cs = c1 ++ c2 ++ c3 ∧ c1.length = off ∧ Rep F m ρ l.t (l.g v) c2 ∧
   ∀ y d2, Rep F m ρ l.t y d2 → Rep F m ρ T (l.p v y) (c1 ++ d2 ++ c3)
 | .st t, off, sz, agg, l, h, v, cs, hr => by
  simp only [comp] at h
  split at h
  ·rename_i hc
   simp only [Bool.and_eq_true, beq_iff_eq] at hc
   cases h
   exact ⟨by simp [hc.1.2, Ty.size], by simp [isSt, hc.2], [], cs, [], by simp, by simp [hc.1.1], hr, fun y d2 h => by simpa using h⟩
  ·cases hk : comp t off sz agg with
   | none => simp [hk] at h
   | some l' =>
    simp only [hk, Option.map_some, Option.some.injEq] at h
    subst h
    exact comp_law t off sz agg l' hk v cs hr
 | .pair a b, off, sz, agg, l, h, v, cs, ⟨d1, d2, e, h1, h2⟩ => by
  subst e
  have l1 := Rep.length a _ _ h1
  simp only [comp] at h
  split at h
  ·cases hk : comp a off sz agg with
   | none => simp [hk] at h
   | some l' =>
    simp only [hk, Option.map_some, Option.some.injEq] at h
    subst h
    obtain ⟨s1, s2, c1, c2, c3, e, hl, hr, hp⟩ := comp_law a off sz agg l' hk v.1 d1 h1
    refine ⟨s1, s2, c1, c2, c3 ++ d2, by simp [e], hl, hr, fun y x hy => ⟨c1 ++ x ++ c3, d2, by simp, hp y x hy, h2⟩⟩
  ·split at h
   ·cases hk : comp b (off - a.size) sz agg with
    | none => simp [hk] at h
    | some l' =>
     simp only [hk, Option.map_some, Option.some.injEq] at h
     subst h
     obtain ⟨s1, s2, c1, c2, c3, e, hl, hr, hp⟩ := comp_law b (off - a.size) sz agg l' hk v.2 d2 h2
     refine ⟨s1, s2, d1 ++ c1, c2, c3, by simp [e], by simp [hl, l1]; omega, hr, fun y x hy => ⟨d1, c1 ++ x ++ c3, by simp, h1, hp y x hy⟩⟩
   ·cases h
 | .unit, off, sz, agg, l, h, v, cs, hr => by simp [comp] at h
 | .tup _, off, sz, agg, l, h, v, cs, hr => by simp [comp] at h
 | .int _, off, sz, agg, l, h, v, cs, hr => leaf_law rfl rfl h v cs hr
 | .bool, off, sz, agg, l, h, v, cs, hr => leaf_law rfl rfl h v cs hr
 | .str, off, sz, agg, l, h, v, cs, hr => leaf_law rfl rfl h v cs hr
 | .slice _, off, sz, agg, l, h, v, cs, hr => leaf_law rfl rfl h v cs hr
 | .sln _, off, sz, agg, l, h, v, cs, hr => leaf_law rfl rfl h v cs hr
 | .ptr _, off, sz, agg, l, h, v, cs, hr => leaf_law rfl rfl h v cs hr
 | .rad _ _, off, sz, agg, l, h, v, cs, hr => leaf_law rfl rfl h v cs hr
 | .ow _, off, sz, agg, l, h, v, cs, hr => leaf_law rfl rfl h v cs hr
 | .osl _, off, sz, agg, l, h, v, cs, hr => leaf_law rfl rfl h v cs hr
 | .oad _ _, off, sz, agg, l, h, v, cs, hr => leaf_law rfl rfl h v cs hr
 | .clo _ _, off, sz, agg, l, h, v, cs, hr => leaf_law rfl rfl h v cs hr
 | .nils, off, sz, agg, l, h, v, cs, hr => leaf_law rfl rfl h v cs hr
 | .nilp, off, sz, agg, l, h, v, cs, hr => leaf_law rfl rfl h v cs hr
 | .lost, off, sz, agg, l, h, v, cs, hr => leaf_law rfl rfl h v cs hr
 | .any, off, sz, agg, l, h, v, cs, hr => leaf_law rfl rfl h v cs hr
 | .psl _, off, sz, agg, l, h, v, cs, hr => leaf_law rfl rfl h v cs hr
 | .pdd _ _, off, sz, agg, l, h, v, cs, hr => leaf_law rfl rfl h v cs hr
 | .pad _ _, off, sz, agg, l, h, v, cs, hr => leaf_law rfl rfl h v cs hr
 | .mpv _, off, sz, agg, l, h, v, cs, hr => leaf_law rfl rfl h v cs hr
 | .fmp _ _, off, sz, agg, l, h, v, cs, hr => leaf_law rfl rfl h v cs hr
 | .mpc _ _, off, sz, agg, l, h, v, cs, hr => hr.elim
 | .mit _ _, off, sz, agg, l, h, v, cs, hr => hr.elim
 | .vec _, off, sz, agg, l, h, v, cs, hr => hr.elim
 | .bx _, off, sz, agg, l, h, v, cs, hr => hr.elim
 | .iter, off, sz, agg, l, h, v, cs, hr => hr.elim
 | .nxt _ _, off, sz, agg, l, h, v, cs, hr => hr.elim
def repl : (T : Ty) → T.den → Nat → Nat → Bool → TV → Option TV
 | .st t, v, off, sz, agg, y => if off == 0 && sz == t.size && agg then (if y.t.size == sz && isSt y.t then some y else none) else (repl t v off sz agg y).map fun x => ⟨.st x.t, x.v⟩
 | .pair a b, v, off, sz, agg, y =>
  if off + sz ≤ a.size then (repl a v.1 off sz agg y).map fun x => ⟨.pair x.t b, (x.v, v.2)⟩
  else if a.size ≤ off then (repl b v.2 (off - a.size) sz agg y).map fun x => ⟨.pair a x.t, (v.1, x.v)⟩
  else none
 | .unit, _, _, _, _, _ => none
 | .tup _, _, _, _, _, _ => none
 | T, _, off, sz, agg, y => if off == 0 && sz == 1 && !agg then (if y.t.size == sz && !isSt y.t then some y else none) else none
structure ReplOk (F : Nat → Prop) (m : Nat → Nat → Option Value) (ρ : RK → Option RI) (T : Ty) (off sz : Nat) (agg : Bool) (y z : TV) (cs d2 : List Value) : Prop where
 hsz : y.t.size = sz
 hag : isSt y.t = agg
 cell : T.cell = true → y.t.cell = true → z.t.cell = true
 regs : ∀ r, r ∈ z.t.regs → r ∈ T.regs ∨ r ∈ y.t.regs
 parts : ∃ c1 c2 c3, cs = c1 ++ c2 ++ c3 ∧ c1.length = off ∧ c2.length = sz ∧ Rep F m ρ z.t z.v (c1 ++ d2 ++ c3)
theorem leaf_repl {F : Nat → Prop} {m : Nat → Nat → Option Value} {ρ : RK → Option RI} {T : Ty} {off sz : Nat} {agg : Bool} {y z : TV}
  (hT : T.size = 1) (h : (if off == 0 && sz == 1 && !agg then (if y.t.size == sz && !isSt y.t then some y else none) else none) = some z) {cs d2 : List Value} (hl : cs.length = T.size) (hy : Rep F m ρ y.t y.v d2) :
  ReplOk F m ρ T off sz agg y z cs d2 := by
 split at h
 ·rename_i hc
  simp only [Bool.and_eq_true, beq_iff_eq, Bool.not_eq_true'] at hc
  split at h
  ·rename_i hy2
   simp only [Bool.and_eq_true, beq_iff_eq, Bool.not_eq_true'] at hy2
   cases h
   exact ⟨hy2.1, by rw [hy2.2, hc.2], fun _ h => h, fun r hr => .inr hr, [], cs, [], by simp, by simp [hc.1.1], by rw [hl, hT, hc.1.2], by simpa using hy⟩
  ·cases h
 ·cases h
theorem repl_law {F : Nat → Prop} {m : Nat → Nat → Option Value} {ρ : RK → Option RI} {y : TV} {d2 : List Value} (hy : Rep F m ρ y.t y.v d2) : ∀ (T : Ty) (v : T.den) (off sz : Nat) (agg : Bool) (z : TV), repl T v off sz agg y = some z → ∀ cs, Rep F m ρ T v cs →
  ReplOk F m ρ T off sz agg y z cs d2
 | .st t, v, off, sz, agg, z, h, cs, hr => by
  simp only [repl] at h
  split at h
  ·rename_i hc
   simp only [Bool.and_eq_true, beq_iff_eq] at hc
   split at h
   ·rename_i hy2
    simp only [Bool.and_eq_true, beq_iff_eq] at hy2
    cases h
    have hl := Rep.length (.st t) v cs hr
    exact ⟨hy2.1, by rw [hy2.2, hc.2], fun _ h => h, fun r hr => .inr hr, [], cs, [], by simp, by simp [hc.1.1], by rw [hl, hc.1.2]; rfl, by simpa using hy⟩
   ·cases h
  ·cases hk : repl t v off sz agg y with
   | none => simp [hk] at h
   | some z' =>
    simp only [hk, Option.map_some, Option.some.injEq] at h
    subst h
    obtain ⟨g1, g2, g3, g4, g5⟩ := repl_law hy t v off sz agg z' hk cs hr
    exact ⟨g1, g2, g3, g4, g5⟩
 | .pair a b, v, off, sz, agg, z, h, cs, ⟨e1, e2, e, h1, h2⟩ => by
  subst e
  have l1 := Rep.length a _ _ h1
  simp only [repl] at h
  split at h
  ·cases hk : repl a v.1 off sz agg y with
   | none => simp [hk] at h
   | some z' =>
    simp only [hk, Option.map_some, Option.some.injEq] at h
    subst h
    obtain ⟨g1, g2, g3, g4, c1, c2, c3, g5, g6, g7, g8⟩ := repl_law hy a v.1 off sz agg z' hk e1 h1
    refine ⟨g1, g2, fun hT hY => ?_, fun r hr => ?_, c1, c2, c3 ++ e2, by simp [g5], g6, g7, ⟨c1 ++ d2 ++ c3, e2, by simp, g8, h2⟩⟩
    ·simp only [Ty.cell, Bool.and_eq_true] at hT ⊢
     exact ⟨g3 hT.1 hY, hT.2⟩
    ·simp only [Ty.regs, List.mem_append] at hr ⊢
     rcases hr with hr | hr
     ·exact (g4 r hr).imp .inl (fun h => h)
     ·exact .inl (.inr hr)
  ·split at h
   ·cases hk : repl b v.2 (off - a.size) sz agg y with
    | none => simp [hk] at h
    | some z' =>
     simp only [hk, Option.map_some, Option.some.injEq] at h
     subst h
     obtain ⟨g1, g2, g3, g4, c1, c2, c3, g5, g6, g7, g8⟩ := repl_law hy b v.2 (off - a.size) sz agg z' hk e2 h2
     refine ⟨g1, g2, fun hT hY => ?_, fun r hr => ?_, e1 ++ c1, c2, c3, by simp [g5], by simp [g6, l1]; omega, g7, ⟨e1, c1 ++ d2 ++ c3, by simp, h1, g8⟩⟩
     ·simp only [Ty.cell, Bool.and_eq_true] at hT ⊢
      exact ⟨hT.1, g3 hT.2 hY⟩
     ·simp only [Ty.regs, List.mem_append] at hr ⊢
      rcases hr with hr | hr
      ·exact .inl (.inl hr)
      ·exact (g4 r hr).imp .inr (fun h => h)
   ·cases h
 | .unit, v, off, sz, agg, z, h, cs, hr => by simp [repl] at h
 | .tup _, v, off, sz, agg, z, h, cs, hr => by simp [repl] at h
 | .int _, v, off, sz, agg, z, h, cs, hr => leaf_repl rfl h (Rep.length _ v cs hr) hy
 | .bool, v, off, sz, agg, z, h, cs, hr => leaf_repl rfl h (Rep.length _ v cs hr) hy
 | .str, v, off, sz, agg, z, h, cs, hr => leaf_repl rfl h (Rep.length _ v cs hr) hy
 | .slice _, v, off, sz, agg, z, h, cs, hr => leaf_repl rfl h (Rep.length _ v cs hr) hy
 | .sln _, v, off, sz, agg, z, h, cs, hr => leaf_repl rfl h (Rep.length _ v cs hr) hy
 | .ptr _, v, off, sz, agg, z, h, cs, hr => leaf_repl rfl h (Rep.length _ v cs hr) hy
 | .rad _ _, v, off, sz, agg, z, h, cs, hr => leaf_repl rfl h (Rep.length _ v cs hr) hy
 | .ow _, v, off, sz, agg, z, h, cs, hr => leaf_repl rfl h (Rep.length _ v cs hr) hy
 | .osl _, v, off, sz, agg, z, h, cs, hr => leaf_repl rfl h (Rep.length _ v cs hr) hy
 | .oad _ _, v, off, sz, agg, z, h, cs, hr => leaf_repl rfl h (Rep.length _ v cs hr) hy
 | .clo _ _, v, off, sz, agg, z, h, cs, hr => leaf_repl rfl h (Rep.length _ v cs hr) hy
 | .nils, v, off, sz, agg, z, h, cs, hr => leaf_repl rfl h (Rep.length _ v cs hr) hy
 | .nilp, v, off, sz, agg, z, h, cs, hr => leaf_repl rfl h (Rep.length _ v cs hr) hy
 | .lost, v, off, sz, agg, z, h, cs, hr => leaf_repl rfl h (Rep.length _ v cs hr) hy
 | .any, v, off, sz, agg, z, h, cs, hr => leaf_repl rfl h (Rep.length _ v cs hr) hy
 | .psl _, v, off, sz, agg, z, h, cs, hr => leaf_repl rfl h (Rep.length _ v cs hr) hy
 | .pdd _ _, v, off, sz, agg, z, h, cs, hr => leaf_repl rfl h (Rep.length _ v cs hr) hy
 | .pad _ _, v, off, sz, agg, z, h, cs, hr => leaf_repl rfl h (Rep.length _ v cs hr) hy
 | .mpv _, v, off, sz, agg, z, h, cs, hr => leaf_repl rfl h (Rep.length _ v cs hr) hy
 | .fmp _ _, v, off, sz, agg, z, h, cs, hr => leaf_repl rfl h (Rep.length _ v cs hr) hy
 | .mpc _ _, v, off, sz, agg, z, h, cs, hr => hr.elim
 | .mit _ _, v, off, sz, agg, z, h, cs, hr => hr.elim
 | .vec _, v, off, sz, agg, z, h, cs, hr => hr.elim
 | .bx _, v, off, sz, agg, z, h, cs, hr => hr.elim
def coe : (s : Ty) → s.den → (d : Ty) → Option d.den
 | .nils, _, .slice t => some []
 | .nilp, _, .ptr t => some none
 | .rad t 0, v, .ptr t' => if h : t = t' then some (some (h ▸ v)) else none
 | .st a, v, .st b => coe a v b
 | .pair a b, v, .pair a' b' => match coe a v.1 a', coe b v.2 b' with
  | some x, some y => some (x, y)
  | _, _ => none
 | .sln t, v, .slice t' => if h : t = t' then some (h ▸ v.1) else none
 | .nils, _, .psl _ => some none
 | s, v, d => if h : s = d then some (h ▸ v) else none
theorem coe_law {F : Nat → Prop} {m : Nat → Nat → Option Value} {ρ : RK → Option RI} (s : Ty) (v : s.den) (d : Ty) (v' : d.den) (cs : List Value) : coe s v d = some v' → Rep F m ρ s v cs → Rep F m ρ d v' cs := by
 fun_induction coe s v d generalizing cs with
 | case1 => intro h hr; cases h; cases hr; exact ⟨none, 0, 0, rfl, rfl, Nat.le_refl _, fun h => absurd rfl h⟩
 | case2 => intro h hr; cases h; cases hr; exact .inl ⟨rfl, rfl⟩
 | case3 t v =>
  intro h' hr; cases h'
  obtain ⟨p, ds, ec, hp, h1, h2⟩ := hr
  exact .inr ⟨v, p, ds, rfl, ec, hp, h1, h2⟩
 | case4 => intro h hr; cases h
 | case5 a v b ih => exact ih v' cs
 | case6 =>
  rename_i ih1 ih2
  intro h hr
  cases h
  obtain ⟨c1, c2, e, h1, h2⟩ := hr
  first
   | exact ⟨c1, c2, e, ih1 _ _ (by assumption) h1, ih2 _ _ (by assumption) h2⟩
   | exact ⟨c1, c2, e, ih2 _ _ (by assumption) h1, ih1 _ _ (by assumption) h2⟩
 | case7 => intro h hr; cases h
 | case8 =>
  intro h hr; cases h
  obtain ⟨A, n, c, e, hn, hc, _, h⟩ := hr
  exact ⟨A, n, c, e, hn, hc, h⟩
 | case9 => intro h hr; cases h
 | case10 => intro h hr; cases h; exact .inl ⟨rfl, hr⟩
 | case11 => intro h hr; cases h; exact hr
 | case12 => intro h hr; cases h
end Go.Vu
