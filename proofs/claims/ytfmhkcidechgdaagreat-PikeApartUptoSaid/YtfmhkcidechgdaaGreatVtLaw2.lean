/- Value semantics, part 7: a region that turns to what is only read; what each operation does, one by one. -/
import Derived.Test.YtfmhkcidechgdaaGreatVtLaw1
set_option linter.unusedVariables false
namespace Go.Vt
open Go
variable {P : Program} {tb : Tab} {R : Type} {F0 M F : Nat → Prop} {W0 w w' : World} {ρ : Nat → Option RI} {s : St} {a : Act} {m : Nat → Nat → Option Value}
theorem ORep.slice {F' : Nat → Prop} {ri : RI} {ob : OB} (h : ORep F w ρ ri ob) (hF : ∀ b, F b → F' b) (hA : ∀ p, ri.A = some p → F' p.1) : RepV1 F' (mem w) ρ (.slice ob.t) ob.xs ri.val := by
  unfold RepV1
  rw [if_neg (by simp [isSt])]
  refine ⟨rfl, _, _, _, rfl, h.n, h.le, fun h0 => ?_⟩
  cases hA' : ri.A with
  | none => have := h.none hA'; have := h.le; omega
  | some p =>
    refine ⟨p, ?_, hA p hA', fun i x hi => ?_⟩
    · rcases h.raw with h1 | h1
      · have := h.le; omega
      · rw [h1, hA']; rfl
    obtain ⟨ds, h1, h2⟩ := h.cells p hA' i x hi
    rw [h.sz] at h1
    exact ⟨ds, h1, Rep.mono hF (fun _ _ _ _ h => h) (fun _ _ h => h) _ _ _ h2⟩
theorem ORep.part {F' : Nat → Prop} {ri : RI} {ob : OB} (h : ORep F w ρ ri ob) {r : Nat} (hr : ρ r = some ri) (hF : ∀ b, F b → F' b) (hA : ∀ p, ri.A = some p → F' p.1) {v : Nat × Nat} {x : Value}
    (hx : RepV1 F (mem w) ρ (.osl r) v x) : RepV1 F' (mem w) ρ (.slice ob.t) ((ob.xs.drop v.1).take v.2) x := by
  unfold RepV1 at *
  rw [if_neg (by simp [isSt])] at *
  obtain ⟨h1, ri', hr', A, c, e, hl, hc, hn, hAA, _⟩ := hx
  rw [hr] at hr'; cases hr'
  obtain rfl : x = _ := by simpa using e
  have hlen : List.length ((ob.xs.drop v.1).take v.2) = v.2 := by
    simp only [List.length_take, List.length_drop]; have := h.n; omega
  refine ⟨rfl, _, _, _, rfl, hlen.symm, hl, fun h0 => ?_⟩
  rcases hAA with hAA | ⟨p, hp, hAA⟩
  · omega
  · refine ⟨_, hAA, hA p hp, fun i y hi => ?_⟩
    have hi' : ob.xs[v.1 + i]? = some y := by
      rw [List.getElem?_take] at hi
      split at hi
      · simpa [List.getElem?_drop] using hi
      · cases hi
    obtain ⟨ds, h3, h4⟩ := h.cells p hp (v.1 + i) y hi'
    refine ⟨ds, ?_, Rep.mono hF (fun _ _ _ _ h => h) (fun _ _ h => h) _ _ _ h4⟩
    have : p.2 + (v.1 + i) * ri.sz = p.2 + v.1 * ri.sz + i * ob.t.size := by rw [Nat.add_mul, h.sz]; omega
    rwa [this] at h3
def Cont.pure : Cont → Bool
  | .arr _ => true
  | .box y => y.t.pure
  | .it _ _ => false
theorem frzC_law {F' : Nat → Prop} {ri : RI} {c : Cont} {r : Nat} (hr : ρ r = some ri) (h : CRep F w ρ ri c) (hc : c.pure = true) (hF : ∀ b, F b → F' b) (hA : ∀ p, ri.A = some p → F' p.1) {t : Ty} {v : t.den} {cs : List Value}
    (hx : Rep F (mem w) ρ t v cs) : Rep F' (mem w) ρ (frzC r c ⟨t, v⟩).t (frzC r c ⟨t, v⟩).v cs := by
  have hm : Rep F' (mem w) ρ t v cs := Rep.mono hF (fun _ _ _ _ h => h) (fun _ _ h => h) _ _ _ hx
  cases c with
  | arr ob =>
    have h : ORep F w ρ ri ob := h
    cases t with
    | ow q =>
      by_cases e : q = r
      · subst e
        rw [show frzC q (.arr ob) ⟨.ow q, v⟩ = ⟨.slice ob.t, ob.xs⟩ by simp [frzC]]
        obtain ⟨ri', h2, e⟩ := hx
        rw [hr] at h2; cases h2
        subst e
        have := h.slice hF hA
        unfold RepV1 at this
        rw [if_neg (by simp [isSt])] at this
        exact this.2
      · rw [show frzC r (.arr ob) ⟨.ow q, v⟩ = ⟨.ow q, v⟩ by simp [frzC, e]]; exact hm
    | osl q =>
      by_cases e : q = r
      · subst e
        rw [show frzC q (.arr ob) ⟨.osl q, v⟩ = ⟨.slice ob.t, (ob.xs.drop v.1).take v.2⟩ by simp [frzC]]
        obtain ⟨ri', h2, A, c, e, h3⟩ := hx
        subst e
        have := h.part (v := v) (x := .slice A v.2 c) hr hF hA (by
          unfold RepV1
          rw [if_neg (by simp [isSt])]
          exact ⟨rfl, ri', h2, A, c, rfl, h3⟩)
        unfold RepV1 at this
        rw [if_neg (by simp [isSt])] at this
        exact this.2
      · rw [show frzC r (.arr ob) ⟨.osl q, v⟩ = ⟨.osl q, v⟩ by simp [frzC, e]]; exact hm
    | _ => exact hm
  | box y =>
    have h : BRep F w ρ ri y := h
    cases t with
    | pad q o =>
      by_cases e : q = r
      · subst e
        rw [show frzC q (.box y) ⟨.pad q o, v⟩ = ⟨.rad y.t o, y.v⟩ by simp [frzC]]
        obtain ⟨ri', p, h2, h3, e⟩ := hx
        rw [hr] at h2; cases h2
        subst e
        obtain ⟨p', ds, cells, el, g1, g2, g3, g4, g5⟩ := h.ex
        rw [h3] at g1; cases g1
        exact ⟨p, ds, rfl, hA p h3, g4, Rep.mono hF (fun _ _ _ _ h => h) (fun _ _ h => h) _ _ _ g5⟩
      · rw [show frzC r (.box y) ⟨.pad q o, v⟩ = ⟨.pad q o, v⟩ by simp [frzC, e]]; exact hm
    | _ => exact hm
  | it l q => cases hc
theorem frzC_st {r : Nat} {c : Cont} {t : Ty} {v : t.den} : isSt (frzC r c ⟨t, v⟩).t = isSt t ∧ (frzC r c ⟨t, v⟩).t.size = t.size ∧ (t.cell = true → (frzC r c ⟨t, v⟩).t.cell = true) := by
  cases c with
  | arr ob =>
    cases t with
    | ow q => by_cases e : q = r <;> simp [frzC, e, isSt, Ty.size, Ty.cell]
    | osl q => by_cases e : q = r <;> simp [frzC, e, isSt, Ty.size, Ty.cell]
    | _ => exact ⟨rfl, rfl, fun h => h⟩
  | box y =>
    cases t with
    | pad q o => by_cases e : q = r <;> simp [frzC, e, isSt, Ty.size, Ty.cell]
    | _ => exact ⟨rfl, rfl, fun h => h⟩
  | it l q => exact ⟨rfl, rfl, fun h => h⟩
theorem frzD_law {F' : Nat → Prop} {ri : RI} {c : Cont} {r : Nat} (hr : ρ r = some ri) (h : CRep F w ρ ri c) (hc : c.pure = true) (hF : ∀ b, F b → F' b) (hA : ∀ p, ri.A = some p → F' p.1) :
    ∀ (t : Ty) (v : t.den) (cs : List Value), Rep F (mem w) ρ t v cs → Rep F' (mem w) ρ (frzD r c t v).t (frzD r c t v).v cs
  | .st t, v, cs, hx => frzD_law hr h hc hF hA t v cs hx
  | .pair a b, v, cs, ⟨c1, c2, e, h1, h2⟩ => ⟨c1, c2, e, frzD_law hr h hc hF hA a v.1 c1 h1, frzD_law hr h hc hF hA b v.2 c2 h2⟩
  | .clo f t, v, cs, ⟨ds, e, h1⟩ => ⟨ds, e, frzD_law hr h hc hF hA t v ds h1⟩
  | .tup t, v, cs, hx => hx.elim
  | .int _, v, cs, hx => frzC_law hr h hc hF hA hx
  | .bool, v, cs, hx => frzC_law hr h hc hF hA hx
  | .str, v, cs, hx => frzC_law hr h hc hF hA hx
  | .unit, v, cs, hx => frzC_law hr h hc hF hA hx
  | .slice _, v, cs, hx => frzC_law hr h hc hF hA hx
  | .sln _, v, cs, hx => frzC_law hr h hc hF hA hx
  | .ptr _, v, cs, hx => frzC_law hr h hc hF hA hx
  | .rad _ _, v, cs, hx => frzC_law hr h hc hF hA hx
  | .ow _, v, cs, hx => frzC_law hr h hc hF hA hx
  | .osl _, v, cs, hx => frzC_law hr h hc hF hA hx
  | .oad _ _, v, cs, hx => frzC_law hr h hc hF hA hx
  | .nils, v, cs, hx => frzC_law hr h hc hF hA hx
  | .nilp, v, cs, hx => frzC_law hr h hc hF hA hx
  | .lost, v, cs, hx => frzC_law hr h hc hF hA hx
  | .any, v, cs, hx => frzC_law hr h hc hF hA hx
  | .pad _ _, v, cs, hx => frzC_law hr h hc hF hA hx
  | .vec _, v, cs, hx => hx.elim
  | .bx _, v, cs, hx => hx.elim
  | .iter, v, cs, hx => hx.elim
  | .nxt _ _, v, cs, hx => hx.elim
theorem frzD_st {r : Nat} {c : Cont} : ∀ (t : Ty) (v : t.den), isSt (frzD r c t v).t = isSt t ∧ (frzD r c t v).t.size = t.size ∧ (t.cell = true → (frzD r c t v).t.cell = true)
  | .st t, v => by
    obtain ⟨_, h2, h3⟩ := frzD_st (r := r) (c := c) t v
    exact ⟨rfl, by simpa [frzD, Ty.size] using h2, h3⟩
  | .pair a b, v => by
    obtain ⟨_, h2, h3⟩ := frzD_st (r := r) (c := c) a v.1
    obtain ⟨_, h5, h6⟩ := frzD_st (r := r) (c := c) b v.2
    refine ⟨rfl, by simp [frzD, Ty.size, h2, h5], fun h => ?_⟩
    simp only [frzD, Ty.cell, Bool.and_eq_true] at h ⊢
    exact ⟨h3 h.1, h6 h.2⟩
  | .clo f t, v => ⟨rfl, rfl, fun _ => rfl⟩
  | .tup t, v => ⟨rfl, rfl, fun h => by cases h⟩
  | .int _, v => frzC_st
  | .bool, v => frzC_st
  | .str, v => frzC_st
  | .unit, v => frzC_st
  | .slice _, v => frzC_st
  | .sln _, v => frzC_st
  | .ptr _, v => frzC_st
  | .rad _ _, v => frzC_st
  | .ow _, v => frzC_st
  | .osl _, v => frzC_st
  | .oad _ _, v => frzC_st
  | .nils, v => frzC_st
  | .nilp, v => frzC_st
  | .lost, v => frzC_st
  | .any, v => frzC_st
  | .pad _ _, v => frzC_st
  | .vec _, v => frzC_st
  | .bx _, v => frzC_st
  | .iter, v => frzC_st
  | .nxt _ _, v => frzC_st
theorem frzD_V1 {F' : Nat → Prop} {ri : RI} {c : Cont} {r : Nat} (hr : ρ r = some ri) (h : CRep F w ρ ri c) (hc : c.pure = true) (hF : ∀ b, F b → F' b) (hA : ∀ p, ri.A = some p → F' p.1) {t : Ty} {v : t.den} {x : Value}
    (hx : RepV1 F (mem w) ρ t v x) : RepV1 F' (mem w) ρ (frzD r c t v).t (frzD r c t v).v x := by
  unfold RepV1 at *
  rw [(frzD_st t v).1]
  split
  · rename_i hs
    rw [if_pos hs] at hx
    obtain ⟨cs, e, hx⟩ := hx
    exact ⟨cs, e, frzD_law hr h hc hF hA _ _ _ hx⟩
  · rename_i hs
    rw [if_neg hs] at hx
    exact ⟨hx.1, frzD_law hr h hc hF hA _ _ _ hx.2⟩
theorem frzD_Vs {F' : Nat → Prop} {ri : RI} {c : Cont} {r : Nat} (hr : ρ r = some ri) (h : CRep F w ρ ri c) (hc : c.pure = true) (hF : ∀ b, F b → F' b) (hA : ∀ p, ri.A = some p → F' p.1) :
    ∀ (t : Ty) (v : t.den) (vs : List Value), RepVs F (mem w) ρ t v vs → RepVs F' (mem w) ρ (frzD r c t v).t (frzD r c t v).v vs
  | .unit, v, vs, hx => by cases c <;> exact hx
  | .pair a b, v, vs, ⟨x, l, e, h1, h2⟩ => ⟨x, l, e, frzD_V1 hr h hc hF hA h1, frzD_Vs hr h hc hF hA b v.2 l h2⟩
  | .st t, v, vs, hx => hx.elim
  | .clo f t, v, vs, hx => hx.elim
  | .tup t, v, vs, hx => hx.elim
  | .int _, v, vs, hx => hx.elim
  | .bool, v, vs, hx => hx.elim
  | .str, v, vs, hx => hx.elim
  | .slice _, v, vs, hx => hx.elim
  | .sln _, v, vs, hx => hx.elim
  | .ptr _, v, vs, hx => hx.elim
  | .rad _ _, v, vs, hx => hx.elim
  | .ow _, v, vs, hx => hx.elim
  | .osl _, v, vs, hx => hx.elim
  | .oad _ _, v, vs, hx => hx.elim
  | .nils, v, vs, hx => hx.elim
  | .nilp, v, vs, hx => hx.elim
  | .lost, v, vs, hx => hx.elim
  | .any, v, vs, hx => hx.elim
  | .pad _ _, v, vs, hx => hx.elim
  | .vec _, v, vs, hx => hx.elim
  | .bx _, v, vs, hx => hx.elim
  | .iter, v, vs, hx => hx.elim
  | .nxt _ _, none, vs, hx => by cases c <;> exact hx
  | .nxt _ _, some p, vs, hx => by
    obtain ⟨x, y, e, h1, h2⟩ := hx
    have : RepVs F' (mem w) ρ (.nxt _ _) (some p) vs := ⟨x, y, e, RepV1.mono hF (fun _ _ _ _ h => h) (fun _ _ h => h) _ _ _ h1, RepV1.mono hF (fun _ _ _ _ h => h) (fun _ _ h => h) _ _ _ h2⟩
    cases c <;> exact this
theorem frzX_law {F' : Nat → Prop} {ri : RI} {c : Cont} {r : Nat} (hr : ρ r = some ri) (h : CRep F w ρ ri c) (hc : c.pure = true) (hF : ∀ b, F b → F' b) (hA : ∀ p, ri.A = some p → F' p.1) {x : TV} {val : Value}
    (hx : RepV F (mem w) ρ x.t x.v val) : RepV F' (mem w) ρ (frzX r c x).t (frzX r c x).v val := by
  unfold frzX
  cases x.t.regs.contains r with
  | false => exact RepV.mono hF (fun _ _ _ _ h => h) (fun _ _ h => h) _ _ _ hx
  | true =>
    obtain ⟨t, v⟩ := x
    show RepV F' (mem w) ρ (frzD r c t v).t (frzD r c t v).v val
    cases t with
    | any => cases c <;> exact hx
    | tup t =>
      obtain ⟨vs, e, hx⟩ := hx
      exact ⟨vs, e, frzD_Vs hr h hc hF hA _ _ _ hx⟩
    | _ => exact RepV.of (frzD_V1 hr h hc hF hA (RepV1.of hx rfl (by intro u; simp)))
theorem frzX_cells {F' : Nat → Prop} {ri : RI} {c : Cont} {r : Nat} (hr : ρ r = some ri) (h : CRep F w ρ ri c) (hc : c.pure = true) (hF : ∀ b, F b → F' b) (hA : ∀ p, ri.A = some p → F' p.1) {x : TV} {cs : List Value}
    (hx : Rep F (mem w) ρ x.t x.v cs) : Rep F' (mem w) ρ (frzX r c x).t (frzX r c x).v cs := by
  unfold frzX
  cases x.t.regs.contains r with
  | false => exact Rep.mono hF (fun _ _ _ _ h => h) (fun _ _ h => h) _ _ _ hx
  | true => exact frzD_law hr h hc hF hA _ _ _ hx
theorem frzX_st {r : Nat} {c : Cont} {x : TV} : isSt (frzX r c x).t = isSt x.t ∧ (frzX r c x).t.size = x.t.size ∧ (x.t.cell = true → (frzX r c x).t.cell = true) := by
  unfold frzX
  cases x.t.regs.contains r with
  | false => exact ⟨rfl, rfl, fun h => h⟩
  | true => exact frzD_st _ _
theorem ORep.blockLt {ri : RI} {ob : OB} (h : ORep F w ρ ri ob) {p : Nat × Nat} (hp : ri.A = some p) : p.1 < w.heap.size := by
  obtain ⟨cells, el, h3, _⟩ := h.block p hp
  exact heap_lt h3
theorem CRep.nosub {ri : RI} {c : Cont} (h : CRep F w ρ ri c) : ri.sub = [] := by
  cases c with
  | arr ob => exact ORep.sub h
  | box x => exact BRep.sub h
  | it l q => exact (SRep.bare h).1
theorem frz_law' (h : RelAt F0 M W0 F ρ s a w) {r : Nat} {c : Cont} (hr : s.cont r = some c) (hc : c.pure = true) : ∃ F' ri, (∀ b, F b → F' b) ∧ ρ r = some ri ∧ CRep F w ρ ri c ∧ (∀ p, ri.A = some p → F' p.1) ∧ RelAt F0 M W0 F' ρ (s.frz r c) a w ∧
    (∀ b, F' b → F b ∨ ri.blk b) := by
  obtain ⟨ri, hρ, ho⟩ := h.cobj r c hr
  have hF : ∀ b, F b → F b ∨ ri.blk b := fun _ h => .inl h
  have hA : ∀ p, ri.A = some p → F p.1 ∨ ri.blk p.1 := fun p hp => .inr (RI.blkA hp)
  have key : ∀ q c', (s.frz r c).cont q = some c' → q ≠ r ∧ ∃ c0, s.cont q = some c0 ∧ c' = frzC1 r c c0 := fun q c' hq => by
    rw [cont_frz] at hq
    split at hq
    · cases hq
    · rename_i e
      cases hs : s.cont q with
      | none => rw [hs] at hq; cases hq
      | some c0 => rw [hs] at hq; cases hq; exact ⟨Ne.symm e, c0, rfl, rfl⟩
  refine ⟨fun b => F b ∨ ri.blk b, ri, hF, hρ, ho, hA, ?_, fun b hb => hb⟩
  refine ⟨h.defers, fun i x hi => ?_, fun q c' hq => ?_, fun q q' c1 c2 ri1 ri2 b hq hq' => ?_, fun q c' ri' b hq h1 hb => ?_, fun q hq => ?_, fun b hb => ?_, fun b hb => .inl (h.base b hb), fun b hb => ?_, h.kept⟩
  · rw [get_frz] at hi
    cases hs : s.get i with
    | none => simp [hs] at hi
    | some y =>
      simp only [hs, Option.map_some, Option.some.injEq] at hi
      subst hi
      obtain ⟨val, h1, h2⟩ := h.slot i y hs
      exact ⟨val, h1, frzX_law hρ ho hc hF hA h2⟩
  · obtain ⟨hn, c0, h0, rfl⟩ := key q c' hq
    obtain ⟨ri', h1, h2⟩ := h.cobj q c0 h0
    refine ⟨ri', h1, ?_⟩
    cases c0 with
    | arr ob => exact ORep.mono h2 hF (fun _ _ h => h)
    | it l q => exact h2
    | box y =>
      have h2 : BRep F w ρ ri' y := h2
      obtain ⟨p, ds, cells, el, g1, g2, g3, g4, g5⟩ := h2.ex
      obtain ⟨k1, k2, k3⟩ := frzX_st (r := r) (c := c) (x := y)
      exact ⟨h2.bare, k3 h2.cell, p, ds, cells, el, g1, g2, by rw [k2]; exact g3, g4, frzX_cells hρ ho hc hF hA g5⟩
  · obtain ⟨_, c3, h3, _⟩ := key q c1 hq
    obtain ⟨_, c4, h4, _⟩ := key q' c2 hq'
    exact h.csep q q' c3 c4 ri1 ri2 b h3 h4
  · obtain ⟨hn, c0, h0, rfl⟩ := key q c' hq
    obtain ⟨h2, h3⟩ := h.cown q c0 ri' b h0 h1 hb
    exact ⟨fun hk => hk.elim h2 (fun e => hn (h.csep q r c0 c ri' ri b h0 hr h1 hρ hb e)), h3⟩
  · rw [ol_frz] at hq
    split at hq
    · cases hq
    · cases hs : ol s.objs q with
      | none => exact h.fresh q hs
      | some o => rw [hs] at hq; cases hq
  · exact hb.elim (h.lt b) (fun e => ho.blkLt e)
  · exact hb.elim (h.frm b) (fun e => .inr (h.cown r c ri b hr hρ e).2)
theorem frz_law (h : RelAt F0 M W0 F ρ s a w) {r : Nat} {c : Cont} (hr : s.cont r = some c) (hc : c.pure = true) : ∃ F' ri, (∀ b, F b → F' b) ∧ ρ r = some ri ∧ CRep F w ρ ri c ∧ (∀ p, ri.A = some p → F' p.1) ∧ RelAt F0 M W0 F' ρ (s.frz r c) a w := by
  obtain ⟨F', ri, h1, h2, h3, h4, h5, _⟩ := frz_law' h hr hc
  exact ⟨F', ri, h1, h2, h3, h4, h5⟩
theorem findF_law : ∀ (n : Nat) (t : Ty) {r : Nat}, findF s n t = some r → ∃ c, s.cont r = some c ∧ c.pure = true
  | 0, _, _, h => by cases h
  | n + 1, t, r, h => by
    unfold findF at h
    split at h
    · cases h
    · split at h
      · rename_i ob hob; cases h; exact ⟨_, hob, rfl⟩
      · rename_i y hy
        split at h
        · rename_i hp; cases h; exact ⟨_, hy, hp⟩
        · exact findF_law n y.t h
      · cases h
theorem toPureN_law : ∀ (n : Nat) {s : St} {F : Nat → Prop} (h : RelAt F0 M W0 F ρ s a w) {x y : TV} {s' : St} (hp : toPureN n s x = some (y, s')) {val : Value} (hx : RepV F (mem w) ρ x.t x.v val),
    ∃ F', (∀ b, F b → F' b) ∧ RelAt F0 M W0 F' ρ s' a w ∧ y.t.pure = true ∧ RepV1 F' (mem w) ρ y.t y.v val
  | 0, _, _, h, _, _, _, hp, _, _ => by cases hp
  | n + 1, s, F, h, x, y, s', hp, val, hx => by
    unfold toPureN at hp
    split at hp
    · rename_i hpu
      cases hp
      refine ⟨F, fun _ h => h, h, hpu, RepV1.of hx ?_ ?_⟩
      · cases ht : x.t <;> simp [ht, Ty.pure, isAny] at hpu ⊢
      · intro u e; rw [e] at hpu; simp [Ty.pure] at hpu
    · split at hp
      · cases hp
      · rename_i r hr
        obtain ⟨c0, hc0, hcp⟩ := findF_law 8 _ hr
        rw [hc0] at hp
        obtain ⟨F1, ri, g1, g2, g3, g4, g5⟩ := frz_law h hc0 hcp
        obtain ⟨F2, k1, k2⟩ := toPureN_law n g5 hp (frzX_law g2 g3 hcp g1 g4 hx)
        exact ⟨F2, fun b hb => k1 b (g1 b hb), k2⟩
theorem toPure_law (h : RelAt F0 M W0 F ρ s a w) {x y : TV} {s' : St} (hp : toPure s x = some (y, s')) {val : Value} (hx : RepV F (mem w) ρ x.t x.v val) :
    ∃ F', (∀ b, F b → F' b) ∧ RelAt F0 M W0 F' ρ s' a w ∧ y.t.pure = true ∧ RepV1 F' (mem w) ρ y.t y.v val := toPureN_law 16 h hp hx
def Done (P : Program) (F0 M : Nat → Prop) (W0 : World) (a : Act) (w : World) (id : Nat) (e : Eff R) (sm : Sem Value) : Prop :=
  ∀ v, e.k.c = some v → ∃ val w' F' ρ', sm.run P w = .ok val w' ∧ ∀ d, RelAt F0 M W0 F' ρ' (e.out d id v) (a.put d val) w'
theorem done_one (h : RelAt F0 M W0 F ρ s a w) {T : Ty} {k : Cnd R T.den} {id : Nat} {sm : Sem Value} (hk : ∀ u, k.c = some u → ∃ val, sm.run P w = .ok val w ∧ RepV F (mem w) ρ T u val) :
    Done P F0 M W0 a w id (Eff.one s T k) sm := by
  intro v hv
  simp only [Eff.one, Cnd.map] at hv
  cases hc : k.c with
  | none => rw [hc] at hv; simp at hv
  | some u =>
    rw [hc] at hv
    obtain rfl := Option.some.inj hv
    obtain ⟨val, h1, h2⟩ := hk u hc
    exact ⟨val, w, F, ρ, h1, fun d => h.put d _ _ h2⟩
theorem ou_ou : ∀ (l : List (Nat × ObS)) (r : Nat) (a b : ObS), ou (ou l r a) r b = ou l r b
  | [], r, a, b => by simp [ou, Nat.beq_refl]
  | (k, x) :: l, r, a, b => by
    simp only [ou]
    by_cases e : k = r
    · subst e; simp [Nat.beq_refl, ou]
    · simp only [beq_false e, cond_false, ou, ou_ou l r a b]
theorem set_set {s : St} {r : Nat} {a b : ObS} : (s.setObj r a).setObj r b = s.setObj r b := by simp [St.setObj, ou_ou]
theorem newC_law (h : RelAt F0 M W0 F ρ s a w) {id : Nat} (hf : ol s.objs id = none) {o : Obj} {ri : RI} {c : Cont} (hb : ∀ b, ri.blk b → b = w.heap.size)
    (hc : CRep F (w.alloc o) (ext ρ id ri) ri c) :
    RelAt F0 M W0 F (ext ρ id ri) (s.setObj id (.live c)) a (w.alloc o) := by
  have h1 : RelAt F0 M W0 F ρ s a (w.alloc o) := h.grow (Kept.alloc _ _ _)
  have h2 := h1.ext id ri hf
  rw [← set_set (a := .dead)]
  refine h2.live id ri c (by rw [St.cont_setObj_same]; rfl) ext_same hc (fun b hb' => ?_)
  have := hb b hb'
  subst this
  refine ⟨fun hb => Nat.lt_irrefl _ (h.lt _ hb), .inl h.kept.size, fun q c' ri' hq hρ' hb2 => ?_⟩
  have hqi : q ≠ id := fun e => by subst e; rw [St.cont_setObj_same] at hq; cases hq
  rw [St.cont_setObj_ne (Ne.symm hqi)] at hq
  rw [ext_ne hqi] at hρ'
  obtain ⟨ri2, h4, h5⟩ := h.cobj q c' hq
  rw [hρ'] at h4; cases h4
  have := h5.blkLt hb2
  omega
theorem alloc_old {cells : Array Value} {el : TypeId} {b : Nat} (hb : b < w.heap.size) (j : Nat) (v : Value) (hv : mem w b j = some v) : mem (w.alloc (.cells cells el)) b j = some v := by
  rw [mem_of_block (Go.RowKit.Below.heap_alloc w _ b hb)]; exact hv
theorem alloc_new {cells : Array Value} {el : TypeId} : (w.alloc (.cells cells el)).heap[w.heap.size]? = some (.cells cells el (0, 0)) := by
  show (w.heap.push _)[w.heap.size]? = _
  simp
theorem new_law (h : RelAt F0 M W0 F ρ s a w) {id : Nat} (hf : ol s.objs id = none) {t : Ty} {xs : List t.den} {cells : Array Value} {el : TypeId} {c : Nat} (hp : t.pure = true)
    (hc : xs.length ≤ c) (hz : c * t.size ≤ cells.size)
    (hx : ∀ (i : Nat) x, xs[i]? = some x → ∃ ds, (∀ (j : Nat) v, ds[j]? = some v → cells[i * t.size + j]? = some v) ∧ Rep F (mem w) ρ t x ds) :
    RelAt F0 M W0 F (ext ρ id ⟨some (w.heap.size, 0), some (adr (w.heap.size, 0)), xs.length, c, t.size, []⟩) (s.setObj id (.live (.arr ⟨t, xs⟩))) a (w.alloc (.cells cells el)) := by
  have h0 : ρ id = none := h.fresh id hf
  refine newC_law h hf (fun b hb => ?_) ⟨rfl, rfl, hc, hp, fun e => (by cases e), .inr rfl, fun p hp => ?_, fun p hp i x hi => ?_, rfl⟩
  · obtain ⟨p, hp, rfl⟩ := blk_nosub rfl hb
    cases hp; rfl
  · cases hp
    exact ⟨cells, el, alloc_new, by simpa using hz⟩
  · cases hp
    obtain ⟨ds, h3, h4⟩ := hx i x hi
    refine ⟨ds, fun j v hj => ?_, Rep.mono (fun _ h => h) (fun b hb => alloc_old (h.lt b hb)) (ext_le h0) _ _ _ h4⟩
    have := h3 j v hj
    simp only [mem, World.cell?, alloc_new]
    simpa using this
theorem nbox_law (h : RelAt F0 M W0 F ρ s a w) {id : Nat} (hf : ol s.objs id = none) {x : TV} {ds : List Value} {el : TypeId} (hc : x.t.cell = true) (hx : Rep F (mem w) ρ x.t x.v ds) :
    RelAt F0 M W0 F (ext ρ id ⟨some (w.heap.size, 0), none, 1, 1, x.t.size, []⟩) (s.setObj id (.live (.box x))) a (w.alloc (.cells ds.toArray el)) := by
  have h0 : ρ id = none := h.fresh id hf
  have hl := Rep.length _ _ _ hx
  refine newC_law h hf (fun b hb => ?_) ⟨⟨rfl, rfl⟩, hc, (w.heap.size, 0), ds, ds.toArray, el, rfl, alloc_new, by simp [hl], fun j v hj => ?_, Rep.mono (fun _ h => h) (fun b hb => alloc_old (h.lt b hb)) (ext_le h0) _ _ _ hx⟩
  · obtain ⟨p, hp, rfl⟩ := blk_nosub rfl hb
    cases hp; rfl
  · simp only [mem, World.cell?, alloc_new]
    simpa using hj
theorem done_new (h : RelAt F0 M W0 F ρ s a w) {id : Nat} (hf : ol s.objs id = none) {T t : Ty} {k : Cnd R (T.den × List t.den)} {sm : Sem Value} (hp : t.pure = true)
    (hk : ∀ u, k.c = some u → ∃ val w1 cells el c, Kept (fun _ => False) w w1 ∧ sm.run P w = .ok val (w1.alloc (.cells cells el)) ∧ u.2.length ≤ c ∧ c * t.size ≤ cells.size ∧
      (∀ (i : Nat) x, u.2[i]? = some x → ∃ ds, (∀ (j : Nat) v, ds[j]? = some v → cells[i * t.size + j]? = some v) ∧ Rep F (mem w1) ρ t x ds) ∧
      RepV F (mem (w1.alloc (.cells cells el))) (ext ρ id ⟨some (w1.heap.size, 0), some (adr (w1.heap.size, 0)), u.2.length, c, t.size, []⟩) T u.1 val) :
    Done P F0 M W0 a w id (Eff.new s T t k) sm := by
  intro v hv
  simp only [Eff.new, Cnd.map] at hv
  cases hc : k.c with
  | none => rw [hc] at hv; simp at hv
  | some u =>
    rw [hc] at hv
    obtain rfl := Option.some.inj hv
    obtain ⟨val, w1, cells, el, c, hk1, h1, h2, h3, h4, h5⟩ := hk u hc
    exact ⟨val, _, F, _, h1, fun d => RelAt.put (new_law (h.grow hk1) hf hp h2 h3 h4) d ⟨T, u.1⟩ val h5⟩
theorem done_nbox (h : RelAt F0 M W0 F ρ s a w) {id : Nat} (hf : ol s.objs id = none) {t : Ty} {y : t.den} {sm : Sem Value} (hc : t.cell = true) {ds : List Value} {el : TypeId} (hx : Rep F (mem w) ρ t y ds)
    (hs : sm.run P w = .ok (.pointer (some (adr (w.heap.size, 0)))) (w.alloc (.cells ds.toArray el))) :
    Done P F0 M W0 a w id (Eff.nbox (R := R) s (.pad id 0) t (.ret ((), y))) sm := by
  intro v hv
  simp only [Eff.nbox, Cnd.map, Cnd.ret, Option.map_some] at hv
  obtain rfl := Option.some.inj hv
  exact ⟨_, _, F, _, hs, fun d => RelAt.put (nbox_law (x := ⟨t, y⟩) h hf hc hx) d ⟨.pad id 0, ()⟩ _ (RepV.of (t := .pad id 0) ⟨rfl, _, (w.heap.size, 0), ext_same, rfl, rfl⟩)⟩
end Go.Vt
