/- Value semantics, part 18: closed values, opened and closed. -/
import Derived.Test.YtfmhkcidechgdaaGreatVtCtr
set_option linter.unusedVariables false
namespace Go.Vt
open Go
variable {P : Program} {tb : Tab} {R : Type} {F0 M F F' : Nat → Prop} {W0 w w' : World} {ρ : Nat → Option RI} {s : St} {a : Act} {m : Nat → Nat → Option Value} {id : Nat}
theorem RepV1.pure {ρ' : Nat → Option RI} {t : Ty} {v : t.den} {x : Value} (hp : t.pure = true) (h : RepV1 F m ρ t v x) : RepV1 F m ρ' t v x := by
  unfold RepV1 at *
  split at h
  · rw [if_pos ‹_›]; obtain ⟨cs, e, h⟩ := h; exact ⟨cs, e, Rep.pure t v cs hp h⟩
  · rw [if_neg ‹_›]; exact ⟨h.1, Rep.pure t v _ hp h.2⟩
theorem ORep.pure0 {ρ' : Nat → Option RI} {ri : RI} {ob : OB} (h : ORep F w ρ ri ob) : ORep F w ρ' ri ob :=
  ⟨h.n, h.sz, h.le, h.pure, h.none, h.raw, h.block, fun p hp i x hi => by
    obtain ⟨ds, h1, h2⟩ := h.cells p hp i x hi
    exact ⟨ds, h1, Rep.pure _ _ _ h.pure h2⟩, h.sub⟩
theorem ORep.flat0 {F' : Nat → Prop} {ri : RI} {ob : OB} (hf : ob.t.flat = true) (h : ORep F w ρ ri ob) : ORep F' w ρ ri ob :=
  ⟨h.n, h.sz, h.le, h.pure, h.none, h.raw, h.block, fun p hp i x hi => by
    obtain ⟨ds, h1, h2⟩ := h.cells p hp i x hi
    exact ⟨ds, h1, Rep.flat _ _ _ hf h2⟩, h.sub⟩
theorem coe_st {s : Ty} {v : s.den} {d : Ty} {v' : d.den} (h : coe s v d = some v') : isSt d = isSt s := by
  unfold coe at h
  split at h
  · rfl
  · rfl
  · rfl
  · rfl
  · rfl
  · rfl
  · split at h
    · rename_i e; rw [e]
    · cases h
theorem leaf_tree {t : Ty} (h : ∀ F w v cs ris, TRep F w t v cs ris = (ris = [] ∧ t.pure = true ∧ Rep F (mem w) ρ0 t v cs)) {v : t.den} {cs : List Value} {ris : List RI} (hr : TRep F w t v cs ris) :
    Rep F (mem w) ρ t v cs ∧ ris = [] ∧ t.pure = true := by
  rw [h] at hr
  obtain ⟨h1, h2, h3⟩ := hr
  exact ⟨Rep.pure _ _ _ h2 h3, h1, h2⟩
theorem opnT_facts : ∀ (t : Ty) (k : Nat), isSt (opnT t k) = isSt t ∧ (opnT t k).size = t.size ∧ (t.tree = true → (opnT t k).cell = true)
  | .vec _, _ => ⟨rfl, rfl, fun _ => rfl⟩
  | .iter, _ => ⟨rfl, rfl, fun _ => rfl⟩
  | .bx _, _ => ⟨rfl, rfl, fun _ => rfl⟩
  | .st t, k => ⟨rfl, (opnT_facts t k).2.1, (opnT_facts t k).2.2⟩
  | .pair a b, k => by
    obtain ⟨_, h1, h2⟩ := opnT_facts a k
    obtain ⟨_, h3, h4⟩ := opnT_facts b (k + cnt a)
    refine ⟨rfl, by simp [opnT, Ty.size, h1, h3], fun h => ?_⟩
    simp only [Ty.tree, Bool.and_eq_true] at h
    simp only [opnT, Ty.cell, Bool.and_eq_true]
    exact ⟨h2 h.1, h4 h.2⟩
  | .int _, _ => ⟨rfl, rfl, fun _ => rfl⟩
  | .bool, _ => ⟨rfl, rfl, fun _ => rfl⟩
  | .str, _ => ⟨rfl, rfl, fun _ => rfl⟩
  | .unit, _ => ⟨rfl, rfl, fun _ => rfl⟩
  | .slice _, _ => ⟨rfl, rfl, fun _ => rfl⟩
  | .sln _, _ => ⟨rfl, rfl, fun _ => rfl⟩
  | .ptr _, _ => ⟨rfl, rfl, fun _ => rfl⟩
  | .rad _ _, _ => ⟨rfl, rfl, fun _ => rfl⟩
  | .ow _, _ => ⟨rfl, rfl, fun _ => rfl⟩
  | .osl _, _ => ⟨rfl, rfl, fun _ => rfl⟩
  | .oad _ _, _ => ⟨rfl, rfl, fun _ => rfl⟩
  | .clo _ _, _ => ⟨rfl, rfl, fun _ => rfl⟩
  | .tup _, _ => ⟨rfl, rfl, fun h => by cases h⟩
  | .nils, _ => ⟨rfl, rfl, fun _ => rfl⟩
  | .nilp, _ => ⟨rfl, rfl, fun _ => rfl⟩
  | .lost, _ => ⟨rfl, rfl, fun _ => rfl⟩
  | .any, _ => ⟨rfl, rfl, fun h => by cases h⟩
  | .nxt _ _, _ => ⟨rfl, rfl, fun h => by cases h⟩
  | .pad _ _, _ => ⟨rfl, rfl, fun _ => rfl⟩
theorem opnC_length : ∀ (t : Ty) (v : t.den) (k : Nat), (opnC t v k).length = cnt t
  | .vec _, _, _ => rfl
  | .iter, _, _ => rfl
  | .bx t, v, k => by simp [opnC, cnt, opnC_length t v (k + 1)]
  | .st t, v, k => opnC_length t v k
  | .pair a b, v, k => by simp [opnC, cnt, opnC_length a v.1 k, opnC_length b v.2 (k + cnt a)]
  | .int _, _, _ => rfl
  | .bool, _, _ => rfl
  | .str, _, _ => rfl
  | .unit, _, _ => rfl
  | .slice _, _, _ => rfl
  | .sln _, _, _ => rfl
  | .ptr _, _, _ => rfl
  | .rad _ _, _, _ => rfl
  | .ow _, _, _ => rfl
  | .osl _, _, _ => rfl
  | .oad _ _, _, _ => rfl
  | .clo _ _, _, _ => rfl
  | .tup _, _, _ => rfl
  | .nils, _, _ => rfl
  | .nilp, _, _ => rfl
  | .lost, _, _ => rfl
  | .any, _, _ => rfl
  | .nxt _ _, _, _ => rfl
  | .pad _ _, _, _ => rfl
structure Opn (F : Nat → Prop) (w : World) (ρ : Nat → Option RI) (t : Ty) (v : t.den) (k : Nat) (cs : List Value) (ris : List RI) : Prop where
  rep : Rep F (mem w) ρ (opnT t k) (opnV t v k) cs
  len : ris.length = cnt t
  tree : t.tree = true
  conts : ∀ (j : Nat) (c : Cont), (opnC t v k)[j]? = some c → ∃ ri, ris[j]? = some ri ∧ CRep F w ρ ri c
theorem opn_leaf {t : Ty} (h : ∀ F w v cs ris, TRep F w t v cs ris = (ris = [] ∧ t.pure = true ∧ Rep F (mem w) ρ0 t v cs)) (h1 : ∀ k, opnT t k = t) (h2 : ∀ v k, HEq (opnV t v k) v) (h3 : ∀ v k, opnC t v k = []) (h4 : cnt t = 0) (h5 : t.tree = t.pure)
    {v : t.den} {k : Nat} {cs : List Value} {ris : List RI} (hr : TRep F w t v cs ris) : Opn F w ρ t v k cs ris := by
  obtain ⟨g1, g2, g3⟩ := leaf_tree (ρ := ρ) h hr
  refine ⟨?_, by rw [g2, h4]; rfl, by rw [h5]; exact g3, fun j c hj => by rw [h3] at hj; cases hj⟩
  have e1 := h1 k
  have e2 := h2 v k
  revert e2
  generalize opnV t v k = u
  revert u
  rw [e1]
  intro u e2
  rw [eq_of_heq e2]
  exact g1
theorem opn_law : ∀ (t : Ty) (v : t.den) (cs : List Value) (ris : List RI) (k : Nat), TRep F w t v cs ris → (∀ (j : Nat) ri, ris[j]? = some ri → ρ (k + j) = some ri) → Opn F w ρ t v k cs ris
  | .vec t, xs, cs, ris, k, h, hρ => by
    obtain ⟨ri, rfl, rfl, ho⟩ := h
    refine ⟨⟨ri, hρ 0 ri rfl, rfl⟩, rfl, ho.pure, fun j c hj => ?_⟩
    cases j with
    | zero => cases hj; exact ⟨ri, rfl, ORep.pure0 ho⟩
    | succ j => simp [opnC] at hj
  | .iter, v, cs, ris, k, h, hρ => by
    obtain ⟨ri, rfl, rfl, ho⟩ := h
    obtain ⟨b, hA, hh⟩ := ho.ex
    refine ⟨⟨ri, (b, 0), hρ 0 ri rfl, hA, by rw [hA]; rfl⟩, rfl, rfl, fun j c hj => ?_⟩
    cases j with
    | zero => cases hj; exact ⟨ri, rfl, ho⟩
    | succ j => simp [opnC] at hj
  | .bx t, v, cs, ris, k, h, hρ => by
    obtain ⟨ri, rs, p, ds, cells, el, rfl, rfl, hA, hsub, hb, hsz, hc, hr⟩ := h
    have ih := opn_law t v ds rs (k + 1) hr fun j r hj => by
      have := hρ (j + 1) r (by simpa using hj)
      rwa [show k + 1 + j = k + (j + 1) by omega]
    obtain ⟨_, f2, f3⟩ := opnT_facts t (k + 1)
    refine ⟨⟨ri, p, hρ 0 ri rfl, hA, rfl⟩, by simp [cnt, ih.len], ih.tree, fun j c hj => ?_⟩
    cases j with
    | zero =>
      simp only [opnC, List.getElem?_cons_zero, Option.some.injEq] at hj
      subst hj
      exact ⟨ri, rfl, hsub, f3 ih.tree, p, ds, cells, el, hA, hb, by rw [f2]; exact hsz, hc, ih.rep⟩
    | succ j =>
      simp only [opnC, List.getElem?_cons_succ] at hj
      obtain ⟨r, h1, h2⟩ := ih.conts j c hj
      exact ⟨r, by simpa using h1, h2⟩
  | .st t, v, cs, ris, k, h, hρ => by
    have ih := opn_law t v cs ris k h hρ
    exact ⟨ih.rep, ih.len, ih.tree, ih.conts⟩
  | .pair a b, v, cs, ris, k, ⟨c1, c2, r1, r2, e1, e2, h1, h2⟩, hρ => by
    subst e1 e2
    have ih1 := opn_law a v.1 c1 r1 k h1 fun j ri hj => hρ j ri (by
      have : j < r1.length := by
        rcases Nat.lt_or_ge j r1.length with h | h
        · exact h
        · rw [List.getElem?_eq_none h] at hj; cases hj
      rw [List.getElem?_append_left this]; exact hj)
    have ih2 := opn_law b v.2 c2 r2 (k + cnt a) h2 fun j ri hj => by
      have := hρ (r1.length + j) ri (by rw [List.getElem?_append_right (by omega), Nat.add_sub_cancel_left]; exact hj)
      rwa [ih1.len, ← Nat.add_assoc] at this
    refine ⟨⟨c1, c2, rfl, ih1.rep, ih2.rep⟩, by simp [cnt, ih1.len, ih2.len], by simp [Ty.tree, ih1.tree, ih2.tree], fun j c hj => ?_⟩
    simp only [opnC] at hj
    rw [List.getElem?_append] at hj
    split at hj
    · rename_i hlt
      obtain ⟨r, h3, h4⟩ := ih1.conts j c hj
      rw [opnC_length] at hlt
      exact ⟨r, by rw [List.getElem?_append_left (by rw [ih1.len]; exact hlt)]; exact h3, h4⟩
    · rename_i hge
      obtain ⟨r, h3, h4⟩ := ih2.conts _ c hj
      rw [opnC_length] at h3 hge
      exact ⟨r, by rw [List.getElem?_append_right (by rw [ih1.len]; omega), ih1.len]; exact h3, h4⟩
  | .int _, v, cs, ris, k, h, _ => opn_leaf (fun _ _ _ _ _ => rfl) (fun _ => rfl) (fun _ _ => HEq.rfl) (fun _ _ => rfl) rfl rfl h
  | .bool, v, cs, ris, k, h, _ => opn_leaf (fun _ _ _ _ _ => rfl) (fun _ => rfl) (fun _ _ => HEq.rfl) (fun _ _ => rfl) rfl rfl h
  | .str, v, cs, ris, k, h, _ => opn_leaf (fun _ _ _ _ _ => rfl) (fun _ => rfl) (fun _ _ => HEq.rfl) (fun _ _ => rfl) rfl rfl h
  | .unit, v, cs, ris, k, h, _ => opn_leaf (fun _ _ _ _ _ => rfl) (fun _ => rfl) (fun _ _ => HEq.rfl) (fun _ _ => rfl) rfl rfl h
  | .slice _, v, cs, ris, k, h, _ => opn_leaf (fun _ _ _ _ _ => rfl) (fun _ => rfl) (fun _ _ => HEq.rfl) (fun _ _ => rfl) rfl rfl h
  | .sln _, v, cs, ris, k, h, _ => opn_leaf (fun _ _ _ _ _ => rfl) (fun _ => rfl) (fun _ _ => HEq.rfl) (fun _ _ => rfl) rfl rfl h
  | .ptr _, v, cs, ris, k, h, _ => opn_leaf (fun _ _ _ _ _ => rfl) (fun _ => rfl) (fun _ _ => HEq.rfl) (fun _ _ => rfl) rfl rfl h
  | .rad _ _, v, cs, ris, k, h, _ => opn_leaf (fun _ _ _ _ _ => rfl) (fun _ => rfl) (fun _ _ => HEq.rfl) (fun _ _ => rfl) rfl rfl h
  | .ow _, v, cs, ris, k, h, _ => opn_leaf (fun _ _ _ _ _ => rfl) (fun _ => rfl) (fun _ _ => HEq.rfl) (fun _ _ => rfl) rfl rfl h
  | .osl _, v, cs, ris, k, h, _ => opn_leaf (fun _ _ _ _ _ => rfl) (fun _ => rfl) (fun _ _ => HEq.rfl) (fun _ _ => rfl) rfl rfl h
  | .oad _ _, v, cs, ris, k, h, _ => opn_leaf (fun _ _ _ _ _ => rfl) (fun _ => rfl) (fun _ _ => HEq.rfl) (fun _ _ => rfl) rfl rfl h
  | .clo _ _, v, cs, ris, k, h, _ => opn_leaf (fun _ _ _ _ _ => rfl) (fun _ => rfl) (fun _ _ => HEq.rfl) (fun _ _ => rfl) rfl rfl h
  | .tup _, v, cs, ris, k, h, _ => opn_leaf (fun _ _ _ _ _ => rfl) (fun _ => rfl) (fun _ _ => HEq.rfl) (fun _ _ => rfl) rfl rfl h
  | .nils, v, cs, ris, k, h, _ => opn_leaf (fun _ _ _ _ _ => rfl) (fun _ => rfl) (fun _ _ => HEq.rfl) (fun _ _ => rfl) rfl rfl h
  | .nilp, v, cs, ris, k, h, _ => opn_leaf (fun _ _ _ _ _ => rfl) (fun _ => rfl) (fun _ _ => HEq.rfl) (fun _ _ => rfl) rfl rfl h
  | .lost, v, cs, ris, k, h, _ => opn_leaf (fun _ _ _ _ _ => rfl) (fun _ => rfl) (fun _ _ => HEq.rfl) (fun _ _ => rfl) rfl rfl h
  | .any, v, cs, ris, k, h, _ => opn_leaf (fun _ _ _ _ _ => rfl) (fun _ => rfl) (fun _ _ => HEq.rfl) (fun _ _ => rfl) rfl rfl h
  | .nxt _ _, v, cs, ris, k, h, _ => opn_leaf (fun _ _ _ _ _ => rfl) (fun _ => rfl) (fun _ _ => HEq.rfl) (fun _ _ => rfl) rfl rfl h
  | .pad _ _, v, cs, ris, k, h, _ => opn_leaf (fun _ _ _ _ _ => rfl) (fun _ => rfl) (fun _ _ => HEq.rfl) (fun _ _ => rfl) rfl rfl h
theorem opn_V1 {t : Ty} {v : t.den} {x : Value} {ris : List RI} {k : Nat} (h : TRepV F w t v x ris) (hρ : ∀ (j : Nat) ri, ris[j]? = some ri → ρ (k + j) = some ri) :
    RepV1 F (mem w) ρ (opnT t k) (opnV t v k) x ∧ ∃ cs, Opn F w ρ t v k cs ris := by
  unfold TRepV at h
  unfold RepV1
  rw [(opnT_facts t k).1]
  split at h
  · rename_i hs
    rw [if_pos hs]
    obtain ⟨cs, e, h⟩ := h
    have ho := opn_law t v cs ris k h hρ
    exact ⟨⟨cs, e, ho.rep⟩, cs, ho⟩
  · rename_i hs
    rw [if_neg hs]
    have ho := opn_law t v _ ris k h.2 hρ
    exact ⟨⟨h.1, ho.rep⟩, _, ho⟩
theorem coe_read {x : TV} {T : Ty} {v : T.den} (hF : ∀ b, F b → F' b) (hc : coe x.t x.v T = some v) (hp : T.pure = true) {cs : List Value} (hx : Rep F (mem w) ρ x.t x.v cs) : Rep F' (mem w) ρ0 T v cs :=
  Rep.pure _ _ _ hp (Rep.mono (ρ' := ρ) hF (fun _ _ _ _ h => h) (fun _ _ h => h) _ _ _ (coe_law _ _ _ _ _ hc hx))
theorem slice_cells {ri : RI} {ob : OB} (h : ORep F w ρ ri ob) (hF : ∀ b, F b → F' b) (hA : ∀ p, ri.A = some p → F' p.1) : Rep F' (mem w) ρ (.slice ob.t) ob.xs [ri.val] := by
  have := h.slice hF hA
  unfold RepV1 at this
  rw [if_neg (by simp [isSt])] at this
  exact this.2
theorem part_cells {ri : RI} {ob : OB} (h : ORep F w ρ ri ob) {r : Nat} (hr : ρ r = some ri) (hF : ∀ b, F b → F' b) (hA : ∀ p, ri.A = some p → F' p.1) {v : Nat × Nat} {cs : List Value}
    (hx : Rep F (mem w) ρ (.osl r) v cs) : Rep F' (mem w) ρ (.slice ob.t) ((ob.xs.drop v.1).take v.2) cs := by
  obtain ⟨ri', h2, A, c, e, h3⟩ := hx
  subst e
  have := h.part (v := v) (x := .slice A v.2 c) hr hF hA (by
    unfold RepV1
    rw [if_neg (by simp [isSt])]
    exact ⟨rfl, ri', h2, A, c, rfl, h3⟩)
  unfold RepV1 at this
  rw [if_neg (by simp [isSt])] at this
  exact this.2
theorem rd_leaf {T : Ty} (he : ∀ x, rdV s T x = (coe x.t x.v T).map fun v => (v, [])) {x : TV} {v : T.den} {fr : List Nat} {cs : List Value} (hF : ∀ b, F b → F' b) (hr : rdV s T x = some (v, fr)) (hp : T.pure = true) (hx : Rep F (mem w) ρ x.t x.v cs) :
    Rep F' (mem w) ρ0 T v cs := by
  rw [he] at hr
  cases hc : coe x.t x.v T with
  | none => rw [hc] at hr; cases hr
  | some u => rw [hc] at hr; cases hr; exact coe_read hF hc hp hx
theorem rd_law (h : RelAt F0 M W0 F ρ s a w) (hF : ∀ b, F b → F' b) : ∀ (T : Ty) (x : TV) {v : T.den} {fr : List Nat} {cs : List Value}, rdV s T x = some (v, fr) → T.pure = true → Rep F (mem w) ρ x.t x.v cs →
    (∀ q ∈ fr, ∀ ri b, ρ q = some ri → ri.blk b → F' b) → Rep F' (mem w) ρ0 T v cs
  | .st t, x, v, fr, cs, hr, hp, hx, hf => by
    obtain ⟨xt, xv⟩ := x
    simp only [rdV] at hr
    split at hr
    · rename_i e; cases e
      exact rd_law h hF t _ hr hp hx hf
    · cases hr
  | .pair p q, x, v, fr, cs, hr, hp, hx, hf => by
    obtain ⟨xt, xv⟩ := x
    simp only [rdV] at hr
    split at hr
    · rename_i a b u e
      cases e
      split at hr
      · rename_i y l z m h1 h2
        cases hr
        simp only [Ty.pure, Bool.and_eq_true] at hp
        obtain ⟨c1, c2, e, g1, g2⟩ := hx
        exact ⟨c1, c2, e, rd_law h hF p _ h1 hp.1 g1 fun q hq => hf q (by simp [hq]), rd_law h hF q _ h2 hp.2 g2 fun q hq => hf q (by simp [hq])⟩
      · cases hr
    · cases hr
  | .slice t, x, v, fr, cs, hr, hp, hx, hf => by
    simp only [rdV] at hr
    split at hr
    · rename_i u hc; cases hr; exact coe_read hF hc hp hx
    · obtain ⟨xt, xv⟩ := x
      split at hr
      · rename_i q u e
        cases e
        split at hr
        · rename_i ob hob
          split at hr
          · rename_i ht
            cases hr
            obtain ⟨obt, obx⟩ := ob
            cases ht
            obtain ⟨ri, h1, ho⟩ := h.obj q _ hob
            obtain ⟨ri', h2, e⟩ := hx
            rw [h1] at h2; cases h2
            subst e
            exact Rep.pure _ _ _ hp (slice_cells ho hF fun p hA => hf q (by simp) ri _ h1 (RI.blkA hA))
          · cases hr
        · cases hr
      · rename_i q u e
        cases e
        split at hr
        · rename_i ob hob
          split at hr
          · rename_i ht
            cases hr
            obtain ⟨obt, obx⟩ := ob
            cases ht
            obtain ⟨ri, h1, ho⟩ := h.obj q _ hob
            exact Rep.pure _ _ _ hp (part_cells ho h1 hF (fun p hA => hf q (by simp) ri _ h1 (RI.blkA hA)) hx)
          · cases hr
        · cases hr
      · cases hr
  | .rad t o, x, v, fr, cs, hr, hp, hx, hf => by
    simp only [rdV] at hr
    split at hr
    · rename_i u hc; cases hr; exact coe_read hF hc hp hx
    · obtain ⟨xt, xv⟩ := x
      split at hr
      · rename_i q o' u e
        cases e
        split at hr
        · rename_i y hy
          split at hr
          · rename_i ho
            have ho : o = o' := by simpa using ho
            subst ho
            cases hrec : rdV s t y with
            | none => rw [hrec] at hr; cases hr
            | some z =>
              obtain ⟨z, l⟩ := z
              rw [hrec] at hr
              cases hr
              obtain ⟨ri, h1, hb⟩ := h.box q y hy
              obtain ⟨ri', p, h2, h3, e⟩ := hx
              rw [h1] at h2; cases h2
              subst e
              obtain ⟨p', ds, cells, el, g1, g2, g3, g4, g5⟩ := hb.ex
              rw [h3] at g1; cases g1
              exact ⟨p, ds, rfl, hf q (by simp) ri _ h1 (RI.blkA h3), g4, rd_law h hF t y hrec hp g5 fun q hq => hf q (by simp [hq])⟩
          · cases hr
        · cases hr
      · cases hr
  | .ptr t, x, v, fr, cs, hr, hp, hx, hf => by
    simp only [rdV] at hr
    split at hr
    · rename_i u hc; cases hr; exact coe_read hF hc hp hx
    · obtain ⟨xt, xv⟩ := x
      split at hr
      · rename_i q u e
        cases e
        split at hr
        · rename_i y hy
          cases hrec : rdV s t y with
          | none => rw [hrec] at hr; cases hr
          | some z =>
            obtain ⟨z, l⟩ := z
            rw [hrec] at hr
            cases hr
            obtain ⟨ri, h1, hb⟩ := h.box q y hy
            obtain ⟨ri', p, h2, h3, e⟩ := hx
            rw [h1] at h2; cases h2
            subst e
            obtain ⟨p', ds, cells, el, g1, g2, g3, g4, g5⟩ := hb.ex
            rw [h3] at g1; cases g1
            exact .inr ⟨z, p, ds, rfl, rfl, hf q (by simp) ri _ h1 (RI.blkA h3), g4, rd_law h hF t y hrec hp g5 fun q hq => hf q (by simp [hq])⟩
        · cases hr
      · cases hr
  | .int _, x, v, fr, cs, hr, hp, hx, hf => rd_leaf (fun _ => rfl) hF hr hp hx
  | .bool, x, v, fr, cs, hr, hp, hx, hf => rd_leaf (fun _ => rfl) hF hr hp hx
  | .str, x, v, fr, cs, hr, hp, hx, hf => rd_leaf (fun _ => rfl) hF hr hp hx
  | .sln _, x, v, fr, cs, hr, hp, hx, hf => rd_leaf (fun _ => rfl) hF hr hp hx
  | .unit, x, v, fr, cs, hr, hp, hx, hf => rd_leaf (fun _ => rfl) hF hr hp hx
  | .ow _, x, v, fr, cs, hr, hp, hx, hf => by cases hp
  | .osl _, x, v, fr, cs, hr, hp, hx, hf => by cases hp
  | .oad _ _, x, v, fr, cs, hr, hp, hx, hf => by cases hp
  | .clo _ _, x, v, fr, cs, hr, hp, hx, hf => rd_leaf (fun _ => rfl) hF hr hp hx
  | .tup _, x, v, fr, cs, hr, hp, hx, hf => by cases hp
  | .nils, x, v, fr, cs, hr, hp, hx, hf => rd_leaf (fun _ => rfl) hF hr hp hx
  | .nilp, x, v, fr, cs, hr, hp, hx, hf => rd_leaf (fun _ => rfl) hF hr hp hx
  | .lost, x, v, fr, cs, hr, hp, hx, hf => by
    simp only [rdV] at hr
    split at hr
    · rename_i hc
      simp only [Bool.and_eq_true, beq_iff_eq] at hc
      have hl := Rep.length _ _ _ hx
      rw [hc.1.1] at hl
      obtain ⟨c, rfl⟩ := List.length_eq_one_iff.1 hl
      exact ⟨c, rfl, Rep.one _ _ _ hc.1.2 hx c (by simp)⟩
    · cases hr
  | .any, x, v, fr, cs, hr, hp, hx, hf => by cases hp
  | .pad _ _, x, v, fr, cs, hr, hp, hx, hf => by cases hp
  | .vec _, x, v, fr, cs, hr, hp, hx, hf => by cases hp
  | .bx _, x, v, fr, cs, hr, hp, hx, hf => by cases hp
  | .iter, x, v, fr, cs, hr, hp, hx, hf => by cases hp
  | .nxt _ _, x, v, fr, cs, hr, hp, hx, hf => by cases hp
theorem cont_of_obj {q : Nat} {ob : OB} (h : s.obj q = some ob) : ∃ c, s.cont q = some c := ⟨_, St.obj_cont.1 h⟩
theorem cont_of_itc {q : Nat} {x : List UInt8 × Nat} (h : s.itc q = some x) : ∃ c, s.cont q = some c := ⟨_, St.itc_cont.1 h⟩
theorem cont_of_bx {q : Nat} {x : TV} (h : s.bx q = some x) : ∃ c, s.cont q = some c := ⟨_, St.bx_cont.1 h⟩
theorem rd_live_leaf {T : Ty} (he : ∀ x, rdV s T x = (coe x.t x.v T).map fun v => (v, [])) {x : TV} {v : T.den} {fr : List Nat} (hr : rdV s T x = some (v, fr)) : ∀ q ∈ fr, ∃ c, s.cont q = some c := by
  rw [he] at hr
  cases hc : coe x.t x.v T with
  | none => rw [hc] at hr; cases hr
  | some u => rw [hc] at hr; cases hr; intro q hq; cases hq
theorem rd_live : ∀ (T : Ty) (x : TV) {v : T.den} {fr : List Nat}, rdV s T x = some (v, fr) → ∀ q ∈ fr, ∃ c, s.cont q = some c
  | .st t, x, v, fr, hr => by
    simp only [rdV] at hr
    split at hr
    · exact rd_live t _ hr
    · cases hr
  | .pair p q, x, v, fr, hr => by
    simp only [rdV] at hr
    split at hr
    · split at hr
      · rename_i h1 h2
        cases hr
        intro q' hq
        rcases List.mem_append.1 hq with hq | hq
        · exact rd_live p _ h1 q' hq
        · exact rd_live q _ h2 q' hq
      · cases hr
    · cases hr
  | .slice t, x, v, fr, hr => by
    simp only [rdV] at hr
    intro q' hq
    split at hr
    · cases hr; cases hq
    · split at hr
      · split at hr
        · rename_i hob
          split at hr
          · cases hr; simp only [List.mem_singleton] at hq; subst hq; exact cont_of_obj hob
          · cases hr
        · cases hr
      · split at hr
        · rename_i hob
          split at hr
          · cases hr; simp only [List.mem_singleton] at hq; subst hq; exact cont_of_obj hob
          · cases hr
        · cases hr
      · cases hr
  | .rad t o, x, v, fr, hr => by
    simp only [rdV] at hr
    intro q' hq
    split at hr
    · cases hr; cases hq
    · split at hr
      · split at hr
        · rename_i y hy
          split at hr
          · cases hrec : rdV s t y with
            | none => rw [hrec] at hr; cases hr
            | some z =>
              rw [hrec] at hr
              cases hr
              rcases List.mem_append.1 hq with hq | hq
              · exact rd_live t y hrec q' hq
              · simp only [List.mem_singleton] at hq; subst hq; exact cont_of_bx hy
          · cases hr
        · cases hr
      · cases hr
  | .ptr t, x, v, fr, hr => by
    simp only [rdV] at hr
    intro q' hq
    split at hr
    · cases hr; cases hq
    · split at hr
      · split at hr
        · rename_i y hy
          cases hrec : rdV s t y with
          | none => rw [hrec] at hr; cases hr
          | some z =>
            rw [hrec] at hr
            cases hr
            rcases List.mem_append.1 hq with hq | hq
            · exact rd_live t y hrec q' hq
            · simp only [List.mem_singleton] at hq; subst hq; exact cont_of_bx hy
        · cases hr
      · cases hr
  | .int _, x, v, fr, hr => rd_live_leaf (fun _ => rfl) hr
  | .bool, x, v, fr, hr => rd_live_leaf (fun _ => rfl) hr
  | .str, x, v, fr, hr => rd_live_leaf (fun _ => rfl) hr
  | .unit, x, v, fr, hr => rd_live_leaf (fun _ => rfl) hr
  | .ow _, x, v, fr, hr => rd_live_leaf (fun _ => rfl) hr
  | .sln _, x, v, fr, hr => rd_live_leaf (fun _ => rfl) hr
  | .osl _, x, v, fr, hr => rd_live_leaf (fun _ => rfl) hr
  | .oad _ _, x, v, fr, hr => rd_live_leaf (fun _ => rfl) hr
  | .clo _ _, x, v, fr, hr => rd_live_leaf (fun _ => rfl) hr
  | .tup _, x, v, fr, hr => rd_live_leaf (fun _ => rfl) hr
  | .nils, x, v, fr, hr => rd_live_leaf (fun _ => rfl) hr
  | .nilp, x, v, fr, hr => rd_live_leaf (fun _ => rfl) hr
  | .lost, x, v, fr, hr => by
    simp only [rdV] at hr
    split at hr
    · cases hr; intro q hq; cases hq
    · cases hr
  | .any, x, v, fr, hr => rd_live_leaf (fun _ => rfl) hr
  | .pad _ _, x, v, fr, hr => rd_live_leaf (fun _ => rfl) hr
  | .vec _, x, v, fr, hr => rd_live_leaf (fun _ => rfl) hr
  | .bx _, x, v, fr, hr => rd_live_leaf (fun _ => rfl) hr
  | .iter, x, v, fr, hr => rd_live_leaf (fun _ => rfl) hr
  | .nxt _ _, x, v, fr, hr => rd_live_leaf (fun _ => rfl) hr
end Go.Vt
