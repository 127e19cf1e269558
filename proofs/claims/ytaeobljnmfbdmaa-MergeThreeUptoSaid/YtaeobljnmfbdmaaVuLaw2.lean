/- Value semantics, part 7: a region that turns to what is only read; what each operation does, one by one. -/
import Derived.Test.YtaeobljnmfbdmaaVuLaw1
set_option linter.unusedVariables false
namespace Go.Vu
open Go
variable {P : Program} {tb : Tab} {R : Type} {F0 : Bs} {M F : Nat → Prop} {W0 w w' : World} {ρ : RK → Option RI} {s : St} {a : Act} {m : Nat → Nat → Option Value}
theorem ORep.slice {F' : Nat → Prop} {ri : RI} {ob : OB} (h : ORep F w ρ ri ob) (hF : ∀ b, F b → F' b) (hA : ∀ p, ri.A = some p → F' p.1) : RepV1 F' (mem w) ρ (.slice ob.t) ob.xs ri.val := by
 unfold RepV1
 rw [if_neg (by simp [isSt])]
 refine ⟨rfl, _, _, _, rfl, h.n, h.le, fun h0 => ?_⟩
 cases hA' : ri.A with
 | none => have := h.none hA'; have := h.le; omega
 | some p =>
  refine ⟨p, ?_, hA p hA', fun i x hi => ?_⟩
  ·rcases h.raw with h1 | h1
   ·have := h.le; omega
   ·rw [h1, hA']; rfl
  obtain ⟨ds, h1, h2⟩ := h.cells p hA' i x hi
  rw [h.sz] at h1
  exact ⟨ds, h1, Rep.mono hF (fun _ _ _ _ h => h) (fun _ _ h => h) _ _ _ h2⟩
theorem ORep.part {F' : Nat → Prop} {ri : RI} {ob : OB} (h : ORep F w ρ ri ob) {r : Nat} (hr : ρ r = some ri) (hF : ∀ b, F b → F' b) (hA : ∀ p, ri.A = some p → F' p.1) {v : Nat × Nat} {x : Value}
  (hx : RepV1 F (mem w) ρ (.osl r) v x) : RepV1 F' (mem w) ρ (.slice ob.t) ((ob.xs.drop v.1).take v.2) x := by
 unfold RepV1 at *
 rw [if_neg (by simp [isSt])] at *
 obtain ⟨h1, ri', hr', A, c, e, hl, hc, hn, hAA, _⟩ := hx
 rw [hr] at hr'; cases hr'
 obtain rfl : x = _ := by simpa using e
 have hlen : List.length ((ob.xs.drop v.1).take v.2) = v.2 := by
  simp only [List.length_take, List.length_drop]; have := h.n; omega
 refine ⟨rfl, _, _, _, rfl, hlen.symm, hl, fun h0 => ?_⟩
 rcases hAA with hAA | ⟨p, hp, hAA⟩
 ·omega
 ·refine ⟨_, hAA, hA p hp, fun i y hi => ?_⟩
  have hi' : ob.xs[v.1 + i]? = some y := by
   rw [List.getElem?_take] at hi
   split at hi
   ·simpa [List.getElem?_drop] using hi
   ·cases hi
  obtain ⟨ds, h3, h4⟩ := h.cells p hp (v.1 + i) y hi'
  refine ⟨ds, ?_, Rep.mono hF (fun _ _ _ _ h => h) (fun _ _ h => h) _ _ _ h4⟩
  have : p.2 + (v.1 + i) * ri.sz = p.2 + v.1 * ri.sz + i * ob.t.size := by rw [Nat.add_mul, h.sz]; omega
  rwa [this] at h3
def Cont.pure : Cont → Bool
 | .arr _ => true
 | .box y => y.t.pure
 | .it _ _ => false
 | .mp _ _ _ => false
 | .mit _ _ _ _ => false
structure Turn (F F' : Nat → Prop) (m : Nat → Nat → Option Value) (ρ ρ' : RK → Option RI) (r : Nat) (c : Tn) : Prop where
 leaf : ∀ {t : Ty} {v : t.den} {cs : List Value}, Rep F m ρ t v cs → Rep F' m ρ' (frzC r c ⟨t, v⟩).t (frzC r c ⟨t, v⟩).v cs
 hF : ∀ b, F b → F' b
 hρ : ∀ k x, ρ k = some x → ρ' k = some x
theorem turn_frz {F' : Nat → Prop} {ri : RI} {c : Cont} {r : Nat} (hr : ρ r = some ri) (h : CRep F w ρ ri c) (hc : c.pure = true) (hF : ∀ b, F b → F' b) (hA : ∀ p, ri.A = some p → F' p.1) : Turn F F' (mem w) ρ ρ r (.frz c) := by
 refine ⟨fun {t v cs} hx => ?_, hF, fun _ _ h => h⟩
 have hm : Rep F' (mem w) ρ t v cs := Rep.mono hF (fun _ _ _ _ h => h) (fun _ _ h => h) _ _ _ hx
 cases c with
 | arr ob =>
  have h : ORep F w ρ ri ob := h
  cases t with
  | ow q =>
   by_cases e : q = r
   ·subst e
    rw [show frzC q (.frz (.arr ob)) ⟨.ow q, v⟩ = ⟨.slice ob.t, ob.xs⟩ by simp [frzC]]
    obtain ⟨ri', h2, e⟩ := hx
    rw [hr] at h2; cases h2
    subst e
    have := h.slice hF hA
    unfold RepV1 at this
    rw [if_neg (by simp [isSt])] at this
    exact this.2
   ·rw [show frzC r (.frz (.arr ob)) ⟨.ow q, v⟩ = ⟨.ow q, v⟩ by simp [frzC, e]]; exact hm
  | osl q =>
   by_cases e : q = r
   ·subst e
    rw [show frzC q (.frz (.arr ob)) ⟨.osl q, v⟩ = ⟨.slice ob.t, (ob.xs.drop v.1).take v.2⟩ by simp [frzC]]
    obtain ⟨ri', h2, A, c, e, h3⟩ := hx
    subst e
    have := h.part (v := v) (x := .slice A v.2 c) hr hF hA (by
     unfold RepV1
     rw [if_neg (by simp [isSt])]
     exact ⟨rfl, ri', h2, A, c, rfl, h3⟩)
    unfold RepV1 at this
    rw [if_neg (by simp [isSt])] at this
    exact this.2
   ·rw [show frzC r (.frz (.arr ob)) ⟨.osl q, v⟩ = ⟨.osl q, v⟩ by simp [frzC, e]]; exact hm
  | _ => exact hm
 | box y =>
  have h : BRep F w ρ ri y := h
  cases t with
  | pad q o =>
   by_cases e : q = r
   ·subst e
    rw [show frzC q (.frz (.box y)) ⟨.pad q o, v⟩ = ⟨.rad y.t o, y.v⟩ by simp [frzC]]
    obtain ⟨ri', p, h2, h3, e⟩ := hx
    rw [hr] at h2; cases h2
    subst e
    obtain ⟨p', ds, cells, el, g1, g2, g3, g4, g5⟩ := h.ex
    rw [h3] at g1; cases g1
    exact ⟨p, ds, rfl, hA p h3, g4, Rep.mono hF (fun _ _ _ _ h => h) (fun _ _ h => h) _ _ _ g5⟩
   ·rw [show frzC r (.frz (.box y)) ⟨.pad q o, v⟩ = ⟨.pad q o, v⟩ by simp [frzC, e]]; exact hm
  | _ => exact hm
 | it l q => cases hc
 | mp k t l => cases hc
 | mit k t l c => cases hc
theorem turn_ado {ri : RI} {ob : OB} {r p i : Nat} (hr : ρ r = some ri) (h : ORep F w ρ ri ob) (h0 : ρ (.pl p i) = none) : Turn F F (mem w) ρ (ext ρ (.pl p i) ri) r (.ado p i ob.xs.length) := by
 have hle := ext_le (ri := ri) h0
 refine ⟨fun {t v cs} hx => ?_, fun _ h => h, hle⟩
 have hm : Rep F (mem w) (ext ρ (.pl p i) ri) t v cs := Rep.mono (fun _ h => h) (fun _ _ _ _ h => h) hle _ _ _ hx
 cases t with
 | ow q =>
  by_cases e : q = r
  ·subst e
   rw [show frzC q (.ado p i ob.xs.length) ⟨.ow q, v⟩ = ⟨.psl p, some (i, 0, ob.xs.length)⟩ by simp [frzC]]
   obtain ⟨ri', h2, e⟩ := hx
   rw [hr] at h2; cases h2
   subst e
   have hn := h.n
   refine .inr ⟨i, (0, ob.xs.length), rfl, ri, ext_same, ri.raw, ri.c, by rw [RI.val, hn], by rw [← hn]; exact h.le, by simp, by simp [hn], ?_, by simpa using h.le⟩
   cases hA : ri.A with
   | none => exact .inl (h.none hA)
   | some a =>
    rcases h.raw with h1 | h1
    ·exact .inl h1
    ·exact .inr ⟨a, rfl, by rw [h1, hA]; simp⟩
  ·rw [show frzC r (.ado p i ob.xs.length) ⟨.ow q, v⟩ = ⟨.ow q, v⟩ by simp [frzC, e]]; exact hm
 | osl q =>
  by_cases e : q = r
  ·subst e
   rw [show frzC q (.ado p i ob.xs.length) ⟨.osl q, v⟩ = ⟨.psl p, some (i, v)⟩ by simp [frzC]]
   obtain ⟨ri', h2, h3⟩ := hx
   rw [hr] at h2; cases h2
   exact .inr ⟨i, v, rfl, ri, ext_same, h3⟩
  ·rw [show frzC r (.ado p i ob.xs.length) ⟨.osl q, v⟩ = ⟨.osl q, v⟩ by simp [frzC, e]]; exact hm
 | oad q o =>
  by_cases e : q = r
  ·subst e
   rw [show frzC q (.ado p i ob.xs.length) ⟨.oad q o, v⟩ = ⟨.pdd p o, (i, v)⟩ by simp [frzC]]
   obtain ⟨ri', pp, h2, h3⟩ := hx
   rw [hr] at h2; cases h2
   exact ⟨ri, pp, ext_same, h3⟩
  ·rw [show frzC r (.ado p i ob.xs.length) ⟨.oad q o, v⟩ = ⟨.oad q o, v⟩ by simp [frzC, e]]; exact hm
 | _ => exact hm
theorem frzC_st {r : Nat} {c : Tn} {t : Ty} {v : t.den} : isSt (frzC r c ⟨t, v⟩).t = isSt t ∧ (frzC r c ⟨t, v⟩).t.size = t.size ∧ (t.cell = true → (frzC r c ⟨t, v⟩).t.cell = true) := by
 cases c with
 | ado p i n =>
  cases t with
  | ow q => by_cases e : q = r <;> simp [frzC, e, isSt, Ty.size, Ty.cell]
  | osl q => by_cases e : q = r <;> simp [frzC, e, isSt, Ty.size, Ty.cell]
  | oad q o => by_cases e : q = r <;> simp [frzC, e, isSt, Ty.size, Ty.cell]
  | _ => exact ⟨rfl, rfl, fun h => h⟩
 | frz c =>
 cases c with
 | arr ob =>
  cases t with
  | ow q => by_cases e : q = r <;> simp [frzC, e, isSt, Ty.size, Ty.cell]
  | osl q => by_cases e : q = r <;> simp [frzC, e, isSt, Ty.size, Ty.cell]
  | _ => exact ⟨rfl, rfl, fun h => h⟩
 | box y =>
  cases t with
  | pad q o => by_cases e : q = r <;> simp [frzC, e, isSt, Ty.size, Ty.cell]
  | _ => exact ⟨rfl, rfl, fun h => h⟩
 | it l q => exact ⟨rfl, rfl, fun h => h⟩
 | mp k t l => exact ⟨rfl, rfl, fun h => h⟩
 | mit k t l c => exact ⟨rfl, rfl, fun h => h⟩
theorem frzD_law {F' : Nat → Prop} {ρ' : RK → Option RI} {c : Tn} {r : Nat} (T : Turn F F' (mem w) ρ ρ' r c) :
  ∀ (t : Ty) (v : t.den) (cs : List Value), Rep F (mem w) ρ t v cs → Rep F' (mem w) ρ' (frzD r c t v).t (frzD r c t v).v cs
 | .st t, v, cs, hx => frzD_law T t v cs hx
 | .pair a b, v, cs, ⟨c1, c2, e, h1, h2⟩ => ⟨c1, c2, e, frzD_law T a v.1 c1 h1, frzD_law T b v.2 c2 h2⟩
 | .clo f t, v, cs, ⟨ds, e, h1⟩ => ⟨ds, e, frzD_law T t v ds h1⟩
 | .tup t, v, cs, hx => hx.elim
 | .int _, v, cs, hx => T.leaf hx
 | .bool, v, cs, hx => T.leaf hx
 | .str, v, cs, hx => T.leaf hx
 | .unit, v, cs, hx => T.leaf hx
 | .slice _, v, cs, hx => T.leaf hx
 | .sln _, v, cs, hx => T.leaf hx
 | .ptr _, v, cs, hx => T.leaf hx
 | .rad _ _, v, cs, hx => T.leaf hx
 | .ow _, v, cs, hx => T.leaf hx
 | .osl _, v, cs, hx => T.leaf hx
 | .oad _ _, v, cs, hx => T.leaf hx
 | .nils, v, cs, hx => T.leaf hx
 | .nilp, v, cs, hx => T.leaf hx
 | .lost, v, cs, hx => T.leaf hx
 | .any, v, cs, hx => T.leaf hx
 | .psl _, v, cs, hx => T.leaf hx
 | .pdd _ _, v, cs, hx => T.leaf hx
 | .pad _ _, v, cs, hx => T.leaf hx
 | .mpv _, v, cs, hx => T.leaf hx
 | .fmp _ _, v, cs, hx => T.leaf hx
 | .mpc _ _, v, cs, hx => hx.elim
 | .mit _ _, v, cs, hx => hx.elim
 | .vec _, v, cs, hx => hx.elim
 | .bx _, v, cs, hx => hx.elim
 | .iter, v, cs, hx => hx.elim
 | .nxt _ _, v, cs, hx => hx.elim
theorem frzD_st {r : Nat} {c : Tn} : ∀ (t : Ty) (v : t.den), isSt (frzD r c t v).t = isSt t ∧ (frzD r c t v).t.size = t.size ∧ (t.cell = true → (frzD r c t v).t.cell = true)
 | .st t, v => by
  obtain ⟨_, h2, h3⟩ := frzD_st (r := r) (c := c) t v
  exact ⟨rfl, by simpa [frzD, Ty.size] using h2, h3⟩
 | .pair a b, v => by
  obtain ⟨_, h2, h3⟩ := frzD_st (r := r) (c := c) a v.1
  obtain ⟨_, h5, h6⟩ := frzD_st (r := r) (c := c) b v.2
  refine ⟨rfl, by simp [frzD, Ty.size, h2, h5], fun h => ?_⟩
  simp only [frzD, Ty.cell, Bool.and_eq_true] at h ⊢
  exact ⟨h3 h.1, h6 h.2⟩
 | .clo f t, v => ⟨rfl, rfl, fun _ => rfl⟩
 | .tup t, v => ⟨rfl, rfl, fun h => by cases h⟩
 | .int _, v => frzC_st
 | .bool, v => frzC_st
 | .str, v => frzC_st
 | .unit, v => frzC_st
 | .slice _, v => frzC_st
 | .sln _, v => frzC_st
 | .ptr _, v => frzC_st
 | .rad _ _, v => frzC_st
 | .ow _, v => frzC_st
 | .osl _, v => frzC_st
 | .oad _ _, v => frzC_st
 | .nils, v => frzC_st
 | .nilp, v => frzC_st
 | .lost, v => frzC_st
 | .any, v => frzC_st
 | .psl _, v => frzC_st
 | .pdd _ _, v => frzC_st
 | .pad _ _, v => frzC_st
 | .mpv _, v => frzC_st
 | .fmp _ _, v => frzC_st
 | .mpc _ _, v => frzC_st
 | .mit _ _, v => frzC_st
 | .vec _, v => frzC_st
 | .bx _, v => frzC_st
 | .iter, v => frzC_st
 | .nxt _ _, v => frzC_st
theorem frzD_V1 {F' : Nat → Prop} {ρ' : RK → Option RI} {c : Tn} {r : Nat} (T : Turn F F' (mem w) ρ ρ' r c) {t : Ty} {v : t.den} {x : Value}
  (hx : RepV1 F (mem w) ρ t v x) : RepV1 F' (mem w) ρ' (frzD r c t v).t (frzD r c t v).v x := by
 unfold RepV1 at *
 rw [(frzD_st t v).1]
 split
 ·rename_i hs
  rw [if_pos hs] at hx
  obtain ⟨cs, e, hx⟩ := hx
  exact ⟨cs, e, frzD_law T _ _ _ hx⟩
 ·rename_i hs
  rw [if_neg hs] at hx
  exact ⟨hx.1, frzD_law T _ _ _ hx.2⟩
theorem frzD_Vs {F' : Nat → Prop} {ρ' : RK → Option RI} {c : Tn} {r : Nat} (T : Turn F F' (mem w) ρ ρ' r c) :
  ∀ (t : Ty) (v : t.den) (vs : List Value), RepVs F (mem w) ρ t v vs → RepVs F' (mem w) ρ' (frzD r c t v).t (frzD r c t v).v vs
 | .unit, v, vs, hx => by
  rw [show frzD r c .unit v = ⟨.unit, v⟩ by cases c with | ado => rfl | frz c => cases c <;> rfl]; exact hx
 | .pair a b, v, vs, ⟨x, l, e, h1, h2⟩ => ⟨x, l, e, frzD_V1 T h1, frzD_Vs T b v.2 l h2⟩
 | .st t, v, vs, hx => hx.elim
 | .clo f t, v, vs, hx => hx.elim
 | .tup t, v, vs, hx => hx.elim
 | .int _, v, vs, hx => hx.elim
 | .bool, v, vs, hx => hx.elim
 | .str, v, vs, hx => hx.elim
 | .slice _, v, vs, hx => hx.elim
 | .sln _, v, vs, hx => hx.elim
 | .ptr _, v, vs, hx => hx.elim
 | .rad _ _, v, vs, hx => hx.elim
 | .ow _, v, vs, hx => hx.elim
 | .osl _, v, vs, hx => hx.elim
 | .oad _ _, v, vs, hx => hx.elim
 | .nils, v, vs, hx => hx.elim
 | .nilp, v, vs, hx => hx.elim
 | .lost, v, vs, hx => hx.elim
 | .any, v, vs, hx => hx.elim
 | .psl _, v, vs, hx => hx.elim
 | .pdd _ _, v, vs, hx => hx.elim
 | .pad _ _, v, vs, hx => hx.elim
 | .vec _, v, vs, hx => hx.elim
 | .bx _, v, vs, hx => hx.elim
 | .iter, v, vs, hx => hx.elim
 | .nxt x y, none, vs, hx => by
  rw [show frzD r c (.nxt x y) none = ⟨.nxt x y, none⟩ by cases c with | ado => rfl | frz c => cases c <;> rfl]; exact hx
 | .nxt t1 t2, some p, vs, hx => by
  rw [show frzD r c (.nxt t1 t2) (some p) = ⟨.nxt t1 t2, some p⟩ by cases c with | ado => rfl | frz c => cases c <;> rfl]
  obtain ⟨x, y, e, h1, h2⟩ := hx
  exact ⟨x, y, e, RepV1.mono T.hF (fun _ _ _ _ h => h) T.hρ _ _ _ h1, RepV1.mono T.hF (fun _ _ _ _ h => h) T.hρ _ _ _ h2⟩
theorem frzX_law {F' : Nat → Prop} {ρ' : RK → Option RI} {c : Tn} {r : Nat} (T : Turn F F' (mem w) ρ ρ' r c) {x : TV} {val : Value}
  (hx : RepV F (mem w) ρ x.t x.v val) : RepV F' (mem w) ρ' (frzX r c x).t (frzX r c x).v val := by
 unfold frzX
 cases x.t.regs.contains r with
 | false => exact RepV.mono T.hF (fun _ _ _ _ h => h) T.hρ _ _ _ hx
 | true =>
  obtain ⟨t, v⟩ := x
  show RepV F' (mem w) ρ' (frzD r c t v).t (frzD r c t v).v val
  cases t with
  | any => rw [show frzD r c .any v = ⟨.any, v⟩ by cases c with | ado => rfl | frz c => cases c <;> rfl]; trivial
  | tup t =>
   obtain ⟨vs, e, hx⟩ := hx
   exact ⟨vs, e, frzD_Vs T _ _ _ hx⟩
  | _ => exact RepV.of (frzD_V1 T (RepV1.of hx rfl (by intro u; simp)))
theorem frzX_cells {F' : Nat → Prop} {ρ' : RK → Option RI} {c : Tn} {r : Nat} (T : Turn F F' (mem w) ρ ρ' r c) {x : TV} {cs : List Value}
  (hx : Rep F (mem w) ρ x.t x.v cs) : Rep F' (mem w) ρ' (frzX r c x).t (frzX r c x).v cs := by
 unfold frzX
 cases x.t.regs.contains r with
 | false => exact Rep.mono T.hF (fun _ _ _ _ h => h) T.hρ _ _ _ hx
 | true => exact frzD_law T _ _ _ hx
theorem frzX_st {r : Nat} {c : Tn} {x : TV} : isSt (frzX r c x).t = isSt x.t ∧ (frzX r c x).t.size = x.t.size ∧ (x.t.cell = true → (frzX r c x).t.cell = true) := by
 unfold frzX
 cases x.t.regs.contains r with
 | false => exact ⟨rfl, rfl, fun h => h⟩
 | true => exact frzD_st _ _
theorem CRep.nosub {ri : RI} {c : Cont} (h : CRep F w ρ ri c) (hc : ∀ k t l x, c ≠ .mit k t l x) : ri.sub = [] := by
 cases c with
 | mp k t l => exact (MRep.bare h).1
 | mit k t l x => exact absurd rfl (hc k t l x)
 | arr ob => exact ORep.sub h
 | box x => exact BRep.sub h
 | it l q => exact (SRep.bare h).1
theorem frz_law' (h : RelAt F0 M W0 F ρ s a w) {r : Nat} {c : Cont} (hr : s.cont r = some c) (hc : c.pure = true) : ∃ F' ri, (∀ b, F b → F' b) ∧ ρ r = some ri ∧ CRep F w ρ ri c ∧ (∀ p, ri.A = some p → F' p.1) ∧ RelAt F0 M W0 F' ρ (s.frz r (.frz c)) a w ∧
  (∀ b, F' b → F b ∨ ri.blk b) := by
 obtain ⟨ri, hρ, ho⟩ := h.cobj r c hr
 have hF : ∀ b, F b → F b ∨ ri.blk b := fun _ h => .inl h
 have hA : ∀ p, ri.A = some p → F p.1 ∨ ri.blk p.1 := fun p hp => .inr (RI.blkA hp)
 have T := turn_frz hρ ho hc hF hA
 have key : ∀ q c', (s.frz r (.frz c)).cont q = some c' → q ≠ r ∧ ∃ c0, s.cont q = some c0 ∧ c' = frzC1 r (.frz c) c0 := fun q c' hq => by
  rw [cont_frz] at hq
  split at hq
  ·cases hq
  ·rename_i e
   cases hs : s.cont q with
   | none => rw [hs] at hq; cases hq
   | some c0 => rw [hs] at hq; cases hq; exact ⟨Ne.symm e, c0, rfl, rfl⟩
 refine ⟨fun b => F b ∨ ri.blk b, ri, hF, hρ, ho, hA, ?_, fun b hb => hb⟩
 refine ⟨h.defers, fun i x hi => ?_, fun q c' hq => ?_, fun q q' c1 c2 ri1 ri2 b hq hq' => ?_, fun q c' ri' b hq h1 hb => ?_, fun q hq => ?_, h.pfresh, h.pfor, fun b hb => ?_, fun b hb => .inl (h.base b hb), fun b hb => ?_, h.kept⟩
 ·rw [get_frz] at hi
  cases hs : s.get i with
  | none => simp [hs] at hi
  | some y =>
   simp only [hs, Option.map_some, Option.some.injEq] at hi
   subst hi
   obtain ⟨val, h1, h2⟩ := h.slot i y hs
   exact ⟨val, h1, frzX_law T h2⟩
 ·obtain ⟨hn, c0, h0, rfl⟩ := key q c' hq
  obtain ⟨ri', h1, h2⟩ := h.cobj q c0 h0
  refine ⟨ri', h1, ?_⟩
  cases c0 with
  | arr ob => exact ORep.mono h2 hF (fun _ _ h => h)
  | it l q => exact h2
  | mp k t l => exact CRep.mono (c := .mp k t l) h2 hF (fun _ _ h => h)
  | mit k t l c => exact CRep.mono (c := .mit k t l c) h2 hF (fun _ _ h => h)
  | box y =>
   have h2 : BRep F w ρ ri' y := h2
   obtain ⟨p, ds, cells, el, g1, g2, g3, g4, g5⟩ := h2.ex
   obtain ⟨k1, k2, k3⟩ := frzX_st (r := r) (c := .frz c) (x := y)
   exact ⟨h2.bare, k3 h2.cell, p, ds, cells, el, g1, g2, by rw [k2]; exact g3, g4, frzX_cells T g5⟩
 ·obtain ⟨_, c3, h3, _⟩ := key q c1 hq
  obtain ⟨_, c4, h4, _⟩ := key q' c2 hq'
  exact h.csep q q' c3 c4 ri1 ri2 b h3 h4
 ·obtain ⟨hn, c0, h0, rfl⟩ := key q c' hq
  obtain ⟨h2, h3⟩ := h.cown q c0 ri' b h0 h1 hb
  exact ⟨fun hk => hk.elim h2 (fun e => hn (h.csep q r c0 c ri' ri b h0 hr h1 hρ hb e)), h3⟩
 ·rw [ol_frz] at hq
  split at hq
  ·cases hq
  ·cases hs : ol s.objs q with
   | none => exact h.fresh q hs
   | some o => rw [hs] at hq; cases hq
 ·exact hb.elim (h.lt b) (fun e => ho.blkLt e)
 ·exact hb.elim (h.frm b) (fun e => .inr (h.cown r c ri b hr hρ e).2)
theorem frz_law (h : RelAt F0 M W0 F ρ s a w) {r : Nat} {c : Cont} (hr : s.cont r = some c) (hc : c.pure = true) : ∃ F' ri, (∀ b, F b → F' b) ∧ ρ r = some ri ∧ Turn F F' (mem w) ρ ρ r (.frz c) ∧ RelAt F0 M W0 F' ρ (s.frz r (.frz c)) a w := by
 obtain ⟨F', ri, h1, h2, h3, h4, h5, _⟩ := frz_law' h hr hc
 exact ⟨F', ri, h1, h2, turn_frz h2 h3 hc h1 h4, h5⟩
theorem cont_ado {r p : Nat} {q : PL} {xs : List q.t.den} (hp : pol s.pls p = some q) {k : RK} {c : Cont} (hk : (s.ado r p q xs).cont k = some c) :
  (k = .pl p q.l.length ∧ c = .arr ⟨q.t, xs⟩) ∨ (k ≠ .pl p q.l.length ∧ k ≠ r ∧ ∃ c0, s.cont k = some c0 ∧ c = frzC1 r (.ado p q.l.length xs.length) c0) := by
 cases k with
 | reg n =>
  have h1 : (s.frz r (.ado p q.l.length xs.length)).cont (.reg n) = some c := hk
  rw [cont_frz] at h1
  split at h1
  ·cases h1
  ·rename_i e
   cases hs : s.cont (.reg n) with
   | none => rw [hs] at h1; cases h1
   | some c0 => rw [hs] at h1; cases h1; exact .inr ⟨by simp, Ne.symm e, c0, rfl, rfl⟩
 | pl p' i =>
  have h1 : (match pol (pou s.pls p ⟨q.t, q.l ++ [some xs]⟩) p' with | some q => q.cont i | none => none) = some c := hk
  rw [pol_pou] at h1
  by_cases e : p = p'
  ·subst e
   simp only [if_true, PL.cont] at h1
   split at h1
   ·rename_i ys hys
    cases h1
    rw [List.getElem?_append] at hys
    split at hys
    ·rename_i hlt
     refine .inr ⟨by simp; omega, by simp, .arr ⟨q.t, ys⟩, ?_, rfl⟩
     simp only [St.cont, hp, PL.cont, hys]
    ·rename_i hge
     have : i - q.l.length = 0 := by
      rcases Nat.eq_zero_or_pos (i - q.l.length) with h0 | h0
      ·exact h0
      ·rw [List.getElem?_eq_none (by simp; omega)] at hys; cases hys
     rw [this] at hys
     simp only [List.getElem?_cons_zero, Option.some.injEq] at hys
     subst hys
     exact .inl ⟨by congr 1; omega, rfl⟩
   ·cases h1
  ·rw [if_neg e] at h1
   refine .inr ⟨fun e2 => by cases e2; exact e rfl, by simp, c, h1, ?_⟩
   cases hq : pol s.pls p' with
   | none => rw [hq] at h1; cases h1
   | some q' =>
    rw [hq] at h1
    simp only [PL.cont] at h1
    split at h1
    ·cases h1; rfl
    ·cases h1
theorem pln_setPl {p p' : Nat} {q : PL} : (s.setPl p q).pln p' = if p = p' then some q.l.length else s.pln p' := by
 unfold St.pln St.setPl
 simp only [pol_pou]
 by_cases e : p = p'
 ·rw [if_pos e, if_pos e]
 ·rw [if_neg e, if_neg e]
theorem pln_of {p : Nat} {q : PL} (h : pol s.pls p = some q) : s.pln p = some q.l.length := by
 unfold St.pln; rw [h]
theorem ado_law (h : RelAt F0 M W0 F ρ s a w) {r p : Nat} {q : PL} (hp : pol s.pls p = some q) {xs : List q.t.den} (hr : s.obj r = some ⟨q.t, xs⟩) :
  ∃ ri, ρ r = some ri ∧ Turn F F (mem w) ρ (ext ρ (.pl p q.l.length) ri) r (.ado p q.l.length xs.length) ∧ RelAt F0 M W0 F (ext ρ (.pl p q.l.length) ri) (s.ado r p q xs) a w := by
 obtain ⟨ri, hρ, ho⟩ := h.obj r _ hr
 have h0 : ρ (.pl p q.l.length) = none := h.pfresh p _ _ (pln_of hp) (Nat.le_refl _)
 have T := turn_ado (p := p) (i := q.l.length) hρ ho h0
 have hle := T.hρ
 have hcr := St.obj_cont.1 hr
 have back : ∀ {k : RK} {c c0 : Cont} {ri' : RI} , k ≠ .pl p q.l.length → ext ρ (.pl p q.l.length) ri k = some ri' → ρ k = some ri' := fun {k c c0 ri'} hn hk => by rwa [ext_ne hn] at hk
 refine ⟨ri, hρ, T, h.defers, fun i x hi => ?_, fun k c hk => ?_, fun k k' c1 c2 ri1 ri2 b hk hk' e1 e2 hb1 hb2 => ?_, fun k c ri' b hk h1 hb => ?_, fun k hk => ?_, fun p' n i hn hi => ?_, fun p' i hn => ?_, h.lt, h.base, h.frm, h.kept⟩
 ·have hi' : (s.frz r (.ado p q.l.length xs.length)).get i = some x := hi
  rw [get_frz] at hi'
  cases hs : s.get i with
  | none => simp [hs] at hi'
  | some y =>
   simp only [hs, Option.map_some, Option.some.injEq] at hi'
   subst hi'
   obtain ⟨val, h1, h2⟩ := h.slot i y hs
   exact ⟨val, h1, frzX_law T h2⟩
 ·rcases cont_ado hp hk with ⟨rfl, rfl⟩ | ⟨hn, hn2, c0, h1, rfl⟩
  ·exact ⟨ri, ext_same, ORep.mono ho (fun _ h => h) hle⟩
  ·obtain ⟨ri', h2, h3⟩ := h.cobj k c0 h1
   refine ⟨ri', hle _ _ h2, ?_⟩
   cases c0 with
   | arr ob => exact ORep.mono h3 (fun _ h => h) hle
   | it l q => exact h3
   | mp k t l => exact CRep.mono (c := .mp k t l) h3 (fun _ h => h) hle
   | mit k t l c => exact CRep.mono (c := .mit k t l c) h3 (fun _ h => h) hle
   | box y =>
    have h3 : BRep F w ρ ri' y := h3
    obtain ⟨pp, ds, cells, el, g1, g2, g3, g4, g5⟩ := h3.ex
    obtain ⟨k1, k2, k3⟩ := frzX_st (r := r) (c := .ado p q.l.length xs.length) (x := y)
    exact ⟨h3.bare, k3 h3.cell, pp, ds, cells, el, g1, g2, by rw [k2]; exact g3, g4, frzX_cells T g5⟩
 ·rcases cont_ado hp hk with ⟨rfl, rfl⟩ | ⟨hn, hn2, c3, h1, rfl⟩ <;> rcases cont_ado hp hk' with ⟨rfl, rfl⟩ | ⟨hn', hn2', c4, h1', rfl⟩
  ·rfl
  ·rw [ext_same] at e1; cases e1
   rw [ext_ne hn'] at e2
   exact absurd (h.csep k' r _ _ _ _ b h1' hcr e2 hρ hb2 hb1) hn2'
  ·rw [ext_same] at e2; cases e2
   rw [ext_ne hn] at e1
   exact absurd (h.csep k r _ _ _ _ b h1 hcr e1 hρ hb1 hb2) hn2
  ·rw [ext_ne hn] at e1
   rw [ext_ne hn'] at e2
   exact h.csep k k' _ _ _ _ b h1 h1' e1 e2 hb1 hb2
 ·rcases cont_ado hp hk with ⟨rfl, rfl⟩ | ⟨hn, hn2, c3, h2, rfl⟩
  ·rw [ext_same] at h1; cases h1
   exact h.cown r _ _ b hcr hρ hb
  ·rw [ext_ne hn] at h1
   exact h.cown k _ _ b h2 h1 hb
 ·have hk' : ol (s.frz r (.ado p q.l.length xs.length)).objs k = none := hk
  rw [ext_ne (by simp)]
  rw [ol_frz] at hk'
  split at hk'
  ·cases hk'
  ·cases hs : ol s.objs k with
   | none => exact h.fresh k hs
   | some o => rw [hs] at hk'; cases hk'
 ·have hn' : ((s.frz r (.ado p q.l.length xs.length)).setPl p ⟨q.t, q.l ++ [some xs]⟩).pln p' = some n := hn
  rw [pln_setPl] at hn'
  split at hn'
  ·rename_i e
   subst e
   simp only [List.length_append, List.length_cons, List.length_nil, Option.some.injEq] at hn'
   rw [ext_ne (by simp; omega)]
   exact h.pfresh p _ i (pln_of hp) (by omega)
  ·rename_i e
   rw [ext_ne (by simp; omega)]
   exact h.pfresh p' n i hn' hi
 ·have hn' : ((s.frz r (.ado p q.l.length xs.length)).setPl p ⟨q.t, q.l ++ [some xs]⟩).pln p' = none := hn
  rw [pln_setPl] at hn'
  split at hn'
  ·cases hn'
  ·rename_i e
   rw [ext_ne (by simp; omega)]
   exact h.pfor p' i hn'
theorem findF_law : ∀ (n : Nat) (t : Ty) {r : Nat}, findF s n t = some r → ∃ c, s.cont r = some c ∧ c.pure = true
 | 0, _, _, h => by cases h
 | n + 1, t, r, h => by
  unfold findF at h
  split at h
  ·cases h
  ·split at h
   ·rename_i ob hob; cases h; exact ⟨_, hob, rfl⟩
   ·rename_i y hy
    split at h
    ·rename_i hp; cases h; exact ⟨_, hy, hp⟩
    ·exact findF_law n y.t h
   ·cases h
theorem toPureN_law : ∀ (n : Nat) {s : St} {F : Nat → Prop} (h : RelAt F0 M W0 F ρ s a w) {x y : TV} {s' : St} (hp : toPureN n s x = some (y, s')) {val : Value} (hx : RepV F (mem w) ρ x.t x.v val),
  ∃ F', (∀ b, F b → F' b) ∧ RelAt F0 M W0 F' ρ s' a w ∧ y.t.pure = true ∧ RepV1 F' (mem w) ρ y.t y.v val
 | 0, _, _, h, _, _, _, hp, _, _ => by cases hp
 | n + 1, s, F, h, x, y, s', hp, val, hx => by
  unfold toPureN at hp
  split at hp
  ·rename_i hpu
   cases hp
   refine ⟨F, fun _ h => h, h, hpu, RepV1.of hx ?_ ?_⟩
   ·cases ht : x.t <;> simp [ht, Ty.pure, isAny] at hpu ⊢
   ·intro u e; rw [e] at hpu; simp [Ty.pure] at hpu
  ·split at hp
   ·cases hp
   ·rename_i r hr
    obtain ⟨c0, hc0, hcp⟩ := findF_law 8 _ hr
    rw [hc0] at hp
    obtain ⟨F1, ri, g1, g2, g3, g5⟩ := frz_law h hc0 hcp
    obtain ⟨F2, k1, k2⟩ := toPureN_law n g5 hp (frzX_law g3 hx)
    exact ⟨F2, fun b hb => k1 b (g1 b hb), k2⟩
theorem toPure_law (h : RelAt F0 M W0 F ρ s a w) {x y : TV} {s' : St} (hp : toPure s x = some (y, s')) {val : Value} (hx : RepV F (mem w) ρ x.t x.v val) :
  ∃ F', (∀ b, F b → F' b) ∧ RelAt F0 M W0 F' ρ s' a w ∧ y.t.pure = true ∧ RepV1 F' (mem w) ρ y.t y.v val := toPureN_law 16 h hp hx
theorem hold_any {t : Ty} (h : t.hold = true) : isAny t = false ∧ ∀ u, t ≠ .tup u := by
 constructor
 ·cases t
  all_goals first
   | rfl
   | (cases h; done)
 ·intro u e
  rw [e] at h
  cases h
theorem toHoldN_law : ∀ (n : Nat) {s : St} {F : Nat → Prop} {ρ : RK → Option RI} (h : RelAt F0 M W0 F ρ s a w) {x y : TV} {s' : St} (hp : toHoldN n s x = some (y, s')) {val : Value} (hx : RepV F (mem w) ρ x.t x.v val),
  ∃ F' ρ', (∀ b, F b → F' b) ∧ (∀ k x, ρ k = some x → ρ' k = some x) ∧ RelAt F0 M W0 F' ρ' s' a w ∧ y.t.hold = true ∧ RepV1 F' (mem w) ρ' y.t y.v val
 | 0, _, _, _, h, _, _, _, hp, _, _ => by cases hp
 | n + 1, s, F, ρ, h, x, y, s', hp, val, hx => by
  unfold toHoldN at hp
  split at hp
  ·rename_i hpu
   cases hp
   exact ⟨F, ρ, fun _ h => h, fun _ _ h => h, h, hpu, RepV1.of hx (hold_any hpu).1 (hold_any hpu).2⟩
  ·have frz : ∀ {r : Nat} {c : Cont}, s.cont r = some c → c.pure = true → toHoldN n (s.frz r (.frz c)) (frzX r (.frz c) x) = some (y, s') → ∃ F' ρ', (∀ b, F b → F' b) ∧ (∀ k x, ρ k = some x → ρ' k = some x) ∧ RelAt F0 M W0 F' ρ' s' a w ∧ y.t.hold = true ∧ RepV1 F' (mem w) ρ' y.t y.v val := fun {r c} hc0 hcp hp => by
    obtain ⟨F1, ri, g1, g2, g3, g5⟩ := frz_law h hc0 hcp
    obtain ⟨F2, ρ2, k1, k2, k3⟩ := toHoldN_law n g5 hp (frzX_law g3 hx)
    exact ⟨F2, ρ2, fun b hb => k1 b (g1 b hb), k2, k3⟩
   split at hp
   ·cases hp
   ·rename_i r hr
    obtain ⟨c0, hc0, hcp⟩ := findF_law 8 _ hr
    rw [hc0] at hp
    cases c0 with
    | arr ob =>
     simp only at hp
     split at hp
     ·rename_i p _
      split at hp
      ·rename_i q hq
       split at hp
       ·rename_i ht
        obtain ⟨t0, xs⟩ := ob
        simp only at ht
        subst ht
        obtain ⟨ri, _, g3, g5⟩ := ado_law h hq (St.obj_cont.2 hc0)
        obtain ⟨F2, ρ2, k1, k2, k3⟩ := toHoldN_law n g5 hp (frzX_law g3 hx)
        exact ⟨F2, ρ2, k1, fun k x hk => k2 k x (g3.hρ k x hk), k3⟩
       ·cases hp
      ·cases hp
     ·exact frz hc0 hcp hp
    | box y => exact frz hc0 hcp hp
    | it l q => exact frz hc0 hcp hp
    | mp k t l => exact frz hc0 hcp hp
    | mit k t l c => exact frz hc0 hcp hp
theorem toHold_law (h : RelAt F0 M W0 F ρ s a w) {x y : TV} {s' : St} (hp : toHold s x = some (y, s')) {val : Value} (hx : RepV F (mem w) ρ x.t x.v val) :
  ∃ F' ρ', (∀ b, F b → F' b) ∧ (∀ k x, ρ k = some x → ρ' k = some x) ∧ RelAt F0 M W0 F' ρ' s' a w ∧ y.t.hold = true ∧ RepV1 F' (mem w) ρ' y.t y.v val := toHoldN_law 16 h hp hx
def Done (P : Program) (F0 : Bs) (M : Nat → Prop) (W0 : World) (a : Act) (w : World) (id : Nat) (e : Eff R) (sm : Sem Value) : Prop :=
 ∀ v, e.k.c = some v → ∃ val w' F' ρ', sm.run P w = .ok val w' ∧ ∀ d, RelAt F0 M W0 F' ρ' (e.out d id v) (a.put d val) w'
theorem done_one (h : RelAt F0 M W0 F ρ s a w) {T : Ty} {k : Cnd R T.den} {id : Nat} {sm : Sem Value} (hk : ∀ u, k.c = some u → ∃ val, sm.run P w = .ok val w ∧ RepV F (mem w) ρ T u val) :
  Done P F0 M W0 a w id (Eff.one s T k) sm := by
 intro v hv
 simp only [Eff.one, Cnd.map] at hv
 cases hc : k.c with
 | none => rw [hc] at hv; simp at hv
 | some u =>
  rw [hc] at hv
  obtain rfl := Option.some.inj hv
  obtain ⟨val, h1, h2⟩ := hk u hc
  exact ⟨val, w, F, ρ, h1, fun d => h.put d _ _ h2⟩
theorem ou_ou : ∀ (l : List (Nat × ObS)) (r : Nat) (a b : ObS), ou (ou l r a) r b = ou l r b
 | [], r, a, b => by simp [ou, Nat.beq_refl]
 | (k, x) :: l, r, a, b => by
  simp only [ou]
  by_cases e : k = r
  ·subst e; simp [Nat.beq_refl, ou]
  ·simp only [beq_false e, cond_false, ou, ou_ou l r a b]
theorem set_set {s : St} {r : Nat} {a b : ObS} : (s.setObj r a).setObj r b = s.setObj r b := by simp [St.setObj, ou_ou]
theorem newC_law (h : RelAt F0 M W0 F ρ s a w) {id : Nat} (hf : ol s.objs id = none) {o : Obj} {ri : RI} {c : Cont} (hb : ∀ b, ri.blk b → b = w.heap.size)
  (hc : CRep F (w.alloc o) (ext ρ id ri) ri c) :
  RelAt F0 M W0 F (ext ρ id ri) (s.setObj id (.live c)) a (w.alloc o) := by
 have h1 : RelAt F0 M W0 F ρ s a (w.alloc o) := h.grow (Kept.alloc _ _ _)
 have h2 := h1.ext id ri hf
 rw [← set_set (a := .dead)]
 refine h2.live id ri c (by rw [St.cont_setObj_same]; rfl) ext_same hc (fun b hb' => ?_)
 have := hb b hb'
 subst this
 refine ⟨fun hb => Nat.lt_irrefl _ (h.lt _ hb), .inl h.kept.size, fun q c' ri' hq hρ' hb2 => ?_⟩
 have hqi : q ≠ id := fun e => by subst e; rw [St.cont_setObj_same] at hq; cases hq
 rw [St.cont_setObj_ne' (Ne.symm hqi)] at hq
 rw [ext_ne hqi] at hρ'
 obtain ⟨ri2, h4, h5⟩ := h.cobj q c' hq
 rw [hρ'] at h4; cases h4
 have := h5.blkLt hb2
 omega
theorem alloc_old {cells : Array Value} {el : TypeId} {b : Nat} (hb : b < w.heap.size) (j : Nat) (v : Value) (hv : mem w b j = some v) : mem (w.alloc (.cells cells el)) b j = some v := by
 rw [mem_of_block (Go.RowKit.Below.heap_alloc w _ b hb)]; exact hv
theorem alloc_new {cells : Array Value} {el : TypeId} : (w.alloc (.cells cells el)).heap[w.heap.size]? = some (.cells cells el (0, 0)) := by
 show (w.heap.push _)[w.heap.size]? = _
 simp
theorem new_law (h : RelAt F0 M W0 F ρ s a w) {id : Nat} (hf : ol s.objs id = none) {t : Ty} {xs : List t.den} {cells : Array Value} {el : TypeId} {c : Nat} (hp : t.hold = true)
  (hc : xs.length ≤ c) (hz : c * t.size ≤ cells.size)
  (hx : ∀ (i : Nat) x, xs[i]? = some x → ∃ ds, (∀ (j : Nat) v, ds[j]? = some v → cells[i * t.size + j]? = some v) ∧ Rep F (mem w) ρ t x ds) :
  RelAt F0 M W0 F (ext ρ id ⟨some (w.heap.size, 0), some (adr (w.heap.size, 0)), xs.length, c, t.size, []⟩) (s.setObj id (.live (.arr ⟨t, xs⟩))) a (w.alloc (.cells cells el)) := by
 have h0 : ρ id = none := h.fresh id hf
 refine newC_law h hf (fun b hb => ?_) ⟨rfl, rfl, hc, hp, fun e => (by cases e), .inr rfl, fun p hp => ?_, fun p hp i x hi => ?_, rfl⟩
 ·obtain ⟨p, hp, rfl⟩ := blk_nosub rfl hb
  cases hp; rfl
 ·cases hp
  exact ⟨cells, el, alloc_new, by simpa using hz⟩
 ·cases hp
  obtain ⟨ds, h3, h4⟩ := hx i x hi
  refine ⟨ds, fun j v hj => ?_, Rep.mono (fun _ h => h) (fun b hb => alloc_old (h.lt b hb)) (ext_le h0) _ _ _ h4⟩
  have := h3 j v hj
  simp only [mem, World.cell?, alloc_new]
  simpa using this
theorem nbox_law (h : RelAt F0 M W0 F ρ s a w) {id : Nat} (hf : ol s.objs id = none) {x : TV} {ds : List Value} {el : TypeId} (hc : x.t.cell = true) (hx : Rep F (mem w) ρ x.t x.v ds) :
  RelAt F0 M W0 F (ext ρ id ⟨some (w.heap.size, 0), none, 1, 1, x.t.size, []⟩) (s.setObj id (.live (.box x))) a (w.alloc (.cells ds.toArray el)) := by
 have h0 : ρ id = none := h.fresh id hf
 have hl := Rep.length _ _ _ hx
 refine newC_law h hf (fun b hb => ?_) ⟨⟨rfl, rfl⟩, hc, (w.heap.size, 0), ds, ds.toArray, el, rfl, alloc_new, by simp [hl], fun j v hj => ?_, Rep.mono (fun _ h => h) (fun b hb => alloc_old (h.lt b hb)) (ext_le h0) _ _ _ hx⟩
 ·obtain ⟨p, hp, rfl⟩ := blk_nosub rfl hb
  cases hp; rfl
 ·simp only [mem, World.cell?, alloc_new]
  simpa using hj
theorem done_new (h : RelAt F0 M W0 F ρ s a w) {id : Nat} (hf : ol s.objs id = none) {T t : Ty} {k : Cnd R (T.den × List t.den)} {sm : Sem Value} (hp : t.hold = true)
  (hk : ∀ u, k.c = some u → ∃ val w1 cells el c, Kept (fun _ => False) w w1 ∧ sm.run P w = .ok val (w1.alloc (.cells cells el)) ∧ u.2.length ≤ c ∧ c * t.size ≤ cells.size ∧
   (∀ (i : Nat) x, u.2[i]? = some x → ∃ ds, (∀ (j : Nat) v, ds[j]? = some v → cells[i * t.size + j]? = some v) ∧ Rep F (mem w1) ρ t x ds) ∧
   RepV F (mem (w1.alloc (.cells cells el))) (ext ρ id ⟨some (w1.heap.size, 0), some (adr (w1.heap.size, 0)), u.2.length, c, t.size, []⟩) T u.1 val) :
  Done P F0 M W0 a w id (Eff.new s T t k) sm := by
 intro v hv
 simp only [Eff.new, Cnd.map] at hv
 cases hc : k.c with
 | none => rw [hc] at hv; simp at hv
 | some u =>
  rw [hc] at hv
  obtain rfl := Option.some.inj hv
  obtain ⟨val, w1, cells, el, c, hk1, h1, h2, h3, h4, h5⟩ := hk u hc
  exact ⟨val, _, F, _, h1, fun d => RelAt.put (new_law (h.grow hk1) hf hp h2 h3 h4) d ⟨T, u.1⟩ val h5⟩
theorem done_nbox (h : RelAt F0 M W0 F ρ s a w) {id : Nat} (hf : ol s.objs id = none) {t : Ty} {y : t.den} {sm : Sem Value} (hc : t.cell = true) {ds : List Value} {el : TypeId} (hx : Rep F (mem w) ρ t y ds)
  (hs : sm.run P w = .ok (.pointer (some (adr (w.heap.size, 0)))) (w.alloc (.cells ds.toArray el))) :
  Done P F0 M W0 a w id (Eff.nbox (R := R) s (.pad id 0) t (.ret ((), y))) sm := by
 intro v hv
 simp only [Eff.nbox, Cnd.map, Cnd.ret, Option.map_some] at hv
 obtain rfl := Option.some.inj hv
 exact ⟨_, _, F, _, hs, fun d => RelAt.put (nbox_law (x := ⟨t, y⟩) h hf hc hx) d ⟨.pad id 0, ()⟩ _ (RepV.of (t := .pad id 0) ⟨rfl, _, (w.heap.size, 0), ext_same, rfl, rfl⟩)⟩
end Go.Vu
