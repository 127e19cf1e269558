/- Value semantics, part 18: closed values, opened and closed. -/
import Derived.Test.YtaeobljnmfbdmaaVuCtr
set_option linter.unusedVariables false
namespace Go.Vu
open Go
variable {P : Program} {tb : Tab} {R : Type} {F0 : Bs} {M F F' : Nat → Prop} {W0 w w' : World} {ρ ρp : RK → Option RI} {s : St} {a : Act} {m : Nat → Nat → Option Value} {id : Nat}
theorem RepV1.pure {ρ' : RK → Option RI} {t : Ty} {v : t.den} {x : Value} (hp : t.pure = true) (h : RepV1 F m ρ t v x) : RepV1 F m ρ' t v x := by
 unfold RepV1 at *
 split at h
 ·rw [if_pos ‹_›]; obtain ⟨cs, e, h⟩ := h; exact ⟨cs, e, Rep.pure t v cs hp h⟩
 ·rw [if_neg ‹_›]; exact ⟨h.1, Rep.pure t v _ hp h.2⟩
theorem ORep.hold0 {ρ' : RK → Option RI} (hρ : ∀ p i x, ρ (.pl p i) = some x → ρ' (.pl p i) = some x) {ri : RI} {ob : OB} (h : ORep F w ρ ri ob) : ORep F w ρ' ri ob :=
 ⟨h.n, h.sz, h.le, h.pure, h.none, h.raw, h.block, fun p hA i x hi => by
  obtain ⟨ds, h1, h2⟩ := h.cells p hA i x hi
  exact ⟨ds, h1, Rep.hold hρ _ _ _ h.pure h2⟩, h.sub⟩
theorem ORep.holdP {ρ' : RK → Option RI} {ri : RI} {ob : OB} (hρ : ∀ p ∈ ob.t.pls, ∀ i x, ρ (.pl p i) = some x → ρ' (.pl p i) = some x) (h : ORep F w ρ ri ob) : ORep F w ρ' ri ob :=
 ⟨h.n, h.sz, h.le, h.pure, h.none, h.raw, h.block, fun p hA i x hi => by
  obtain ⟨ds, h1, h2⟩ := h.cells p hA i x hi
  exact ⟨ds, h1, Rep.holdP _ _ _ h.pure hρ h2⟩, h.sub⟩
theorem RepV1.hold {ρ' : RK → Option RI} {t : Ty} {v : t.den} {x : Value} (hp : t.hold = true) (hρ : ∀ p ∈ t.pls, ∀ i x, ρ (.pl p i) = some x → ρ' (.pl p i) = some x) (h : RepV1 F m ρ t v x) : RepV1 F m ρ' t v x := by
 unfold RepV1 at *
 split at h
 ·rw [if_pos ‹_›]; obtain ⟨cs, e, h⟩ := h; exact ⟨cs, e, Rep.holdP t v cs hp hρ h⟩
 ·rw [if_neg ‹_›]; exact ⟨h.1, Rep.holdP t v _ hp hρ h.2⟩
theorem ORep.flat0 {F' : Nat → Prop} {ri : RI} {ob : OB} (hf : ob.t.flat = true) (h : ORep F w ρ ri ob) : ORep F' w ρ ri ob :=
 ⟨h.n, h.sz, h.le, h.pure, h.none, h.raw, h.block, fun p hp i x hi => by
  obtain ⟨ds, h1, h2⟩ := h.cells p hp i x hi
  exact ⟨ds, h1, Rep.flat _ _ _ hf h2⟩, h.sub⟩
theorem coe_st {s : Ty} {v : s.den} {d : Ty} {v' : d.den} (h : coe s v d = some v') : isSt d = isSt s := by
 unfold coe at h
 split at h
 ·rfl
 ·rfl
 ·rfl
 ·rfl
 ·rfl
 ·rfl
 ·rfl
 ·split at h
  ·rename_i e; rw [e]
  ·cases h
theorem leaf_tree {t : Ty} (h : ∀ F w ρ v cs ris, TRep F w ρ t v cs ris = (ris = [] ∧ t.hold = true ∧ Rep F (mem w) ρ t v cs)) (hpl : ∀ p i x, ρp (.pl p i) = some x → ρ (.pl p i) = some x) {v : t.den} {cs : List Value} {ris : List RI} (hr : TRep F w ρp t v cs ris) :
  Rep F (mem w) ρ t v cs ∧ ris = [] ∧ t.hold = true := by
 rw [h] at hr
 obtain ⟨h1, h2, h3⟩ := hr
 exact ⟨Rep.hold hpl _ _ _ h2 h3, h1, h2⟩
theorem opnT_facts : ∀ (t : Ty) (k : Nat), isSt (opnT t k) = isSt t ∧ (opnT t k).size = t.size ∧ (t.tree = true → (opnT t k).cell = true)
 | .vec _, _ => ⟨rfl, rfl, fun _ => rfl⟩
 | .iter, _ => ⟨rfl, rfl, fun _ => rfl⟩
 | .bx _, _ => ⟨rfl, rfl, fun _ => rfl⟩
 | .st t, k => ⟨rfl, (opnT_facts t k).2.1, (opnT_facts t k).2.2⟩
 | .pair a b, k => by
  obtain ⟨_, h1, h2⟩ := opnT_facts a k
  obtain ⟨_, h3, h4⟩ := opnT_facts b (k + cnt a)
  refine ⟨rfl, by simp [opnT, Ty.size, h1, h3], fun h => ?_⟩
  simp only [Ty.tree, Bool.and_eq_true] at h
  simp only [opnT, Ty.cell, Bool.and_eq_true]
  exact ⟨h2 h.1, h4 h.2⟩
 | .int _, _ => ⟨rfl, rfl, fun _ => rfl⟩
 | .bool, _ => ⟨rfl, rfl, fun _ => rfl⟩
 | .str, _ => ⟨rfl, rfl, fun _ => rfl⟩
 | .unit, _ => ⟨rfl, rfl, fun _ => rfl⟩
 | .slice _, _ => ⟨rfl, rfl, fun _ => rfl⟩
 | .sln _, _ => ⟨rfl, rfl, fun _ => rfl⟩
 | .ptr _, _ => ⟨rfl, rfl, fun _ => rfl⟩
 | .rad _ _, _ => ⟨rfl, rfl, fun _ => rfl⟩
 | .ow _, _ => ⟨rfl, rfl, fun _ => rfl⟩
 | .osl _, _ => ⟨rfl, rfl, fun _ => rfl⟩
 | .oad _ _, _ => ⟨rfl, rfl, fun _ => rfl⟩
 | .clo _ _, _ => ⟨rfl, rfl, fun _ => rfl⟩
 | .tup _, _ => ⟨rfl, rfl, fun h => by cases h⟩
 | .nils, _ => ⟨rfl, rfl, fun _ => rfl⟩
 | .nilp, _ => ⟨rfl, rfl, fun _ => rfl⟩
 | .lost, _ => ⟨rfl, rfl, fun _ => rfl⟩
 | .any, _ => ⟨rfl, rfl, fun h => by cases h⟩
 | .nxt _ _, _ => ⟨rfl, rfl, fun h => by cases h⟩
 | .psl _, _ => ⟨rfl, rfl, fun _ => rfl⟩
 | .pdd _ _, _ => ⟨rfl, rfl, fun _ => rfl⟩
 | .pad _ _, _ => ⟨rfl, rfl, fun _ => rfl⟩
 | .mpv _, _ => ⟨rfl, rfl, fun _ => rfl⟩
 | .fmp _ _, _ => ⟨rfl, rfl, fun _ => rfl⟩
 | .mpc _ _, _ => ⟨rfl, rfl, fun _ => rfl⟩
 | .mit _ _, _ => ⟨rfl, rfl, fun _ => rfl⟩
theorem opnC_length : ∀ (t : Ty) (v : t.den) (k : Nat), (opnC t v k).length = cnt t
 | .vec _, _, _ => rfl
 | .iter, _, _ => rfl
 | .bx t, v, k => by simp [opnC, cnt, opnC_length t v (k + 1)]
 | .st t, v, k => opnC_length t v k
 | .pair a b, v, k => by simp [opnC, cnt, opnC_length a v.1 k, opnC_length b v.2 (k + cnt a)]
 | .int _, _, _ => rfl
 | .bool, _, _ => rfl
 | .str, _, _ => rfl
 | .unit, _, _ => rfl
 | .slice _, _, _ => rfl
 | .sln _, _, _ => rfl
 | .ptr _, _, _ => rfl
 | .rad _ _, _, _ => rfl
 | .ow _, _, _ => rfl
 | .osl _, _, _ => rfl
 | .oad _ _, _, _ => rfl
 | .clo _ _, _, _ => rfl
 | .tup _, _, _ => rfl
 | .nils, _, _ => rfl
 | .nilp, _, _ => rfl
 | .lost, _, _ => rfl
 | .any, _, _ => rfl
 | .nxt _ _, _, _ => rfl
 | .psl _, _, _ => rfl
 | .pdd _ _, _, _ => rfl
 | .pad _ _, _, _ => rfl
 | .mpv _, _, _ => rfl
 | .fmp _ _, _, _ => rfl
 | .mpc _ _, _, _ => rfl
 | .mit _ _, _, _ => rfl
structure Opn (F : Nat → Prop) (w : World) (ρ : RK → Option RI) (t : Ty) (v : t.den) (k : Nat) (cs : List Value) (ris : List RI) : Prop where
 rep : Rep F (mem w) ρ (opnT t k) (opnV t v k) cs
 len : ris.length = cnt t
 tree : t.tree = true
 conts : ∀ (j : Nat) (c : Cont), (opnC t v k)[j]? = some c → ∃ ri, ris[j]? = some ri ∧ CRep F w ρ ri c
theorem opn_leaf {t : Ty} (h : ∀ F w ρ v cs ris, TRep F w ρ t v cs ris = (ris = [] ∧ t.hold = true ∧ Rep F (mem w) ρ t v cs)) (hpl : ∀ p i x, ρp (.pl p i) = some x → ρ (.pl p i) = some x) (h1 : ∀ k, opnT t k = t) (h2 : ∀ v k, HEq (opnV t v k) v) (h3 : ∀ v k, opnC t v k = []) (h4 : cnt t = 0) (h5 : t.tree = t.hold)
  {v : t.den} {k : Nat} {cs : List Value} {ris : List RI} (hr : TRep F w ρp t v cs ris) : Opn F w ρ t v k cs ris := by
 obtain ⟨g1, g2, g3⟩ := leaf_tree (ρ := ρ) h hpl hr
 refine ⟨?_, by rw [g2, h4]; rfl, by rw [h5]; exact g3, fun j c hj => by rw [h3] at hj; cases hj⟩
 have e1 := h1 k
 have e2 := h2 v k
 revert e2
 generalize opnV t v k = u
 revert u
 rw [e1]
 intro u e2
 rw [eq_of_heq e2]
 exact g1
theorem opn_law (hpl : ∀ p i x, ρp (.pl p i) = some x → ρ (.pl p i) = some x) : ∀ (t : Ty) (v : t.den) (cs : List Value) (ris : List RI) (k : Nat), TRep F w ρp t v cs ris → (∀ (j : Nat) ri, ris[j]? = some ri → ρ (k + j) = some ri) → Opn F w ρ t v k cs ris
 | .vec t, xs, cs, ris, k, h, hρ => by
  obtain ⟨ri, rfl, rfl, ho⟩ := h
  refine ⟨⟨ri, hρ 0 ri rfl, rfl⟩, rfl, ho.pure, fun j c hj => ?_⟩
  cases j with
  | zero => cases hj; exact ⟨ri, rfl, ORep.hold0 hpl ho⟩
  | succ j => simp [opnC] at hj
 | .iter, v, cs, ris, k, h, hρ => by
  obtain ⟨ri, rfl, rfl, ho⟩ := h
  obtain ⟨b, hA, hh⟩ := ho.ex
  refine ⟨⟨ri, (b, 0), hρ 0 ri rfl, hA, by rw [hA]; rfl⟩, rfl, rfl, fun j c hj => ?_⟩
  cases j with
  | zero => cases hj; exact ⟨ri, rfl, ho⟩
  | succ j => simp [opnC] at hj
 | .mpc kk t, v, cs, ris, k, h, hρ => by
  obtain ⟨ri, rfl, rfl, ho⟩ := h
  obtain ⟨b, es, clock, hA, _⟩ := ho.ex
  refine ⟨⟨ri, (b, 0), hρ 0 ri rfl, hA, by rw [hA]; rfl⟩, rfl, ho.hold, fun j c hj => ?_⟩
  cases j with
  | zero => cases hj; exact ⟨ri, rfl, MRep.reps ho fun v cs => Rep.hold hpl t v cs ho.hold⟩
  | succ j => simp [opnC] at hj
 | .mit kk t, v, cs, ris, k, h, hρ => by
  obtain ⟨ri, rfl, rfl, ho⟩ := h
  obtain ⟨b, _, _, _, _, _, hA, _⟩ := ho.ex
  refine ⟨⟨ri, (b, 0), hρ 0 ri rfl, hA, by rw [hA]; rfl⟩, rfl, ho.hold, fun j c hj => ?_⟩
  cases j with
  | zero => cases hj; exact ⟨ri, rfl, IRep.reps ho fun v cs => Rep.hold hpl t v cs ho.hold⟩
  | succ j => simp [opnC] at hj
 | .bx t, v, cs, ris, k, h, hρ => by
  obtain ⟨ri, rs, p, ds, cells, el, rfl, rfl, hA, hsub, hb, hsz, hc, hr⟩ := h
  have ih := opn_law hpl t v ds rs (k + 1) hr fun j r hj => by
   have := hρ (j + 1) r (by simpa using hj)
   rwa [show k + 1 + j = k + (j + 1) by omega]
  obtain ⟨_, f2, f3⟩ := opnT_facts t (k + 1)
  refine ⟨⟨ri, p, hρ 0 ri rfl, hA, rfl⟩, by simp [cnt, ih.len], ih.tree, fun j c hj => ?_⟩
  cases j with
  | zero =>
   simp only [opnC, List.getElem?_cons_zero, Option.some.injEq] at hj
   subst hj
   exact ⟨ri, rfl, hsub, f3 ih.tree, p, ds, cells, el, hA, hb, by rw [f2]; exact hsz, hc, ih.rep⟩
  | succ j =>
   simp only [opnC, List.getElem?_cons_succ] at hj
   obtain ⟨r, h1, h2⟩ := ih.conts j c hj
   exact ⟨r, by simpa using h1, h2⟩
 | .st t, v, cs, ris, k, h, hρ => by
  have ih := opn_law hpl t v cs ris k h hρ
  exact ⟨ih.rep, ih.len, ih.tree, ih.conts⟩
 | .pair a b, v, cs, ris, k, ⟨c1, c2, r1, r2, e1, e2, h1, h2⟩, hρ => by
  subst e1 e2
  have ih1 := opn_law hpl a v.1 c1 r1 k h1 fun j ri hj => hρ j ri (by
   have : j < r1.length := by
    rcases Nat.lt_or_ge j r1.length with h | h
    ·exact h
    ·rw [List.getElem?_eq_none h] at hj; cases hj
   rw [List.getElem?_append_left this]; exact hj)
  have ih2 := opn_law hpl b v.2 c2 r2 (k + cnt a) h2 fun j ri hj => by
   have := hρ (r1.length + j) ri (by rw [List.getElem?_append_right (by omega), Nat.add_sub_cancel_left]; exact hj)
   rwa [ih1.len, ← Nat.add_assoc] at this
  refine ⟨⟨c1, c2, rfl, ih1.rep, ih2.rep⟩, by simp [cnt, ih1.len, ih2.len], by simp [Ty.tree, ih1.tree, ih2.tree], fun j c hj => ?_⟩
  simp only [opnC] at hj
  rw [List.getElem?_append] at hj
  split at hj
  ·rename_i hlt
   obtain ⟨r, h3, h4⟩ := ih1.conts j c hj
   rw [opnC_length] at hlt
   exact ⟨r, by rw [List.getElem?_append_left (by rw [ih1.len]; exact hlt)]; exact h3, h4⟩
  ·rename_i hge
   obtain ⟨r, h3, h4⟩ := ih2.conts _ c hj
   rw [opnC_length] at h3 hge
   exact ⟨r, by rw [List.getElem?_append_right (by rw [ih1.len]; omega), ih1.len]; exact h3, h4⟩
 | .int _, v, cs, ris, k, h, _ => opn_leaf (fun _ _ _ _ _ _ => rfl) hpl (fun _ => rfl) (fun _ _ => HEq.rfl) (fun _ _ => rfl) rfl rfl h
 | .bool, v, cs, ris, k, h, _ => opn_leaf (fun _ _ _ _ _ _ => rfl) hpl (fun _ => rfl) (fun _ _ => HEq.rfl) (fun _ _ => rfl) rfl rfl h
 | .str, v, cs, ris, k, h, _ => opn_leaf (fun _ _ _ _ _ _ => rfl) hpl (fun _ => rfl) (fun _ _ => HEq.rfl) (fun _ _ => rfl) rfl rfl h
 | .unit, v, cs, ris, k, h, _ => opn_leaf (fun _ _ _ _ _ _ => rfl) hpl (fun _ => rfl) (fun _ _ => HEq.rfl) (fun _ _ => rfl) rfl rfl h
 | .slice _, v, cs, ris, k, h, _ => opn_leaf (fun _ _ _ _ _ _ => rfl) hpl (fun _ => rfl) (fun _ _ => HEq.rfl) (fun _ _ => rfl) rfl rfl h
 | .sln _, v, cs, ris, k, h, _ => opn_leaf (fun _ _ _ _ _ _ => rfl) hpl (fun _ => rfl) (fun _ _ => HEq.rfl) (fun _ _ => rfl) rfl rfl h
 | .ptr _, v, cs, ris, k, h, _ => opn_leaf (fun _ _ _ _ _ _ => rfl) hpl (fun _ => rfl) (fun _ _ => HEq.rfl) (fun _ _ => rfl) rfl rfl h
 | .rad _ _, v, cs, ris, k, h, _ => opn_leaf (fun _ _ _ _ _ _ => rfl) hpl (fun _ => rfl) (fun _ _ => HEq.rfl) (fun _ _ => rfl) rfl rfl h
 | .ow _, v, cs, ris, k, h, _ => opn_leaf (fun _ _ _ _ _ _ => rfl) hpl (fun _ => rfl) (fun _ _ => HEq.rfl) (fun _ _ => rfl) rfl rfl h
 | .osl _, v, cs, ris, k, h, _ => opn_leaf (fun _ _ _ _ _ _ => rfl) hpl (fun _ => rfl) (fun _ _ => HEq.rfl) (fun _ _ => rfl) rfl rfl h
 | .oad _ _, v, cs, ris, k, h, _ => opn_leaf (fun _ _ _ _ _ _ => rfl) hpl (fun _ => rfl) (fun _ _ => HEq.rfl) (fun _ _ => rfl) rfl rfl h
 | .clo _ _, v, cs, ris, k, h, _ => opn_leaf (fun _ _ _ _ _ _ => rfl) hpl (fun _ => rfl) (fun _ _ => HEq.rfl) (fun _ _ => rfl) rfl rfl h
 | .tup _, v, cs, ris, k, h, _ => opn_leaf (fun _ _ _ _ _ _ => rfl) hpl (fun _ => rfl) (fun _ _ => HEq.rfl) (fun _ _ => rfl) rfl rfl h
 | .nils, v, cs, ris, k, h, _ => opn_leaf (fun _ _ _ _ _ _ => rfl) hpl (fun _ => rfl) (fun _ _ => HEq.rfl) (fun _ _ => rfl) rfl rfl h
 | .nilp, v, cs, ris, k, h, _ => opn_leaf (fun _ _ _ _ _ _ => rfl) hpl (fun _ => rfl) (fun _ _ => HEq.rfl) (fun _ _ => rfl) rfl rfl h
 | .lost, v, cs, ris, k, h, _ => opn_leaf (fun _ _ _ _ _ _ => rfl) hpl (fun _ => rfl) (fun _ _ => HEq.rfl) (fun _ _ => rfl) rfl rfl h
 | .any, v, cs, ris, k, h, _ => opn_leaf (fun _ _ _ _ _ _ => rfl) hpl (fun _ => rfl) (fun _ _ => HEq.rfl) (fun _ _ => rfl) rfl rfl h
 | .nxt _ _, v, cs, ris, k, h, _ => opn_leaf (fun _ _ _ _ _ _ => rfl) hpl (fun _ => rfl) (fun _ _ => HEq.rfl) (fun _ _ => rfl) rfl rfl h
 | .psl _, v, cs, ris, k, h, _ => opn_leaf (fun _ _ _ _ _ _ => rfl) hpl (fun _ => rfl) (fun _ _ => HEq.rfl) (fun _ _ => rfl) rfl rfl h
 | .pdd _ _, v, cs, ris, k, h, _ => opn_leaf (fun _ _ _ _ _ _ => rfl) hpl (fun _ => rfl) (fun _ _ => HEq.rfl) (fun _ _ => rfl) rfl rfl h
 | .pad _ _, v, cs, ris, k, h, _ => opn_leaf (fun _ _ _ _ _ _ => rfl) hpl (fun _ => rfl) (fun _ _ => HEq.rfl) (fun _ _ => rfl) rfl rfl h
 | .mpv _, v, cs, ris, k, h, _ => opn_leaf (fun _ _ _ _ _ _ => rfl) hpl (fun _ => rfl) (fun _ _ => HEq.rfl) (fun _ _ => rfl) rfl rfl h
 | .fmp _ _, v, cs, ris, k, h, _ => opn_leaf (fun _ _ _ _ _ _ => rfl) hpl (fun _ => rfl) (fun _ _ => HEq.rfl) (fun _ _ => rfl) rfl rfl h
theorem opn_V1 {t : Ty} {v : t.den} {x : Value} {ris : List RI} {k : Nat} (hpl : ∀ p i x, ρp (.pl p i) = some x → ρ (.pl p i) = some x) (h : TRepV F w ρp t v x ris) (hρ : ∀ (j : Nat) ri, ris[j]? = some ri → ρ (k + j) = some ri) :
  RepV1 F (mem w) ρ (opnT t k) (opnV t v k) x ∧ ∃ cs, Opn F w ρ t v k cs ris := by
 unfold TRepV at h
 unfold RepV1
 rw [(opnT_facts t k).1]
 split at h
 ·rename_i hs
  rw [if_pos hs]
  obtain ⟨cs, e, h⟩ := h
  have ho := opn_law hpl t v cs ris k h hρ
  exact ⟨⟨cs, e, ho.rep⟩, cs, ho⟩
 ·rename_i hs
  rw [if_neg hs]
  have ho := opn_law hpl t v _ ris k h.2 hρ
  exact ⟨⟨h.1, ho.rep⟩, _, ho⟩
def RQ.has : RQ → RK → Prop
 | .reg q, k => k = .reg q
 | .pool p, k => ∃ i, k = .pl p i
def Reads (s : St) (ρ : RK → Option RI) (F' : Nat → Prop) (fr : List RQ) : Prop := ∀ Q ∈ fr, ∀ k c ri b, Q.has k → s.cont k = some c → ρ k = some ri → ri.blk b → F' b
theorem Reads.left {a b : List RQ} (h : Reads s ρ F' (a ++ b)) : Reads s ρ F' a := fun Q hQ => h Q (by simp [hQ])
theorem Reads.right {a b : List RQ} (h : Reads s ρ F' (a ++ b)) : Reads s ρ F' b := fun Q hQ => h Q (by simp [hQ])
theorem Reads.reg {q : Nat} {fr : List RQ} (h : Reads s ρ F' fr) (hq : RQ.reg q ∈ fr) {c : Cont} {ri : RI} (hc : s.cont q = some c) (hr : ρ q = some ri) : ∀ p, ri.A = some p → F' p.1 := fun p hA => h _ hq q c ri p.1 rfl hc hr (RI.blkA hA)
theorem coe_read {x : TV} {T : Ty} {v : T.den} (hpl : ∀ p i x, ρ (.pl p i) = some x → ρp (.pl p i) = some x) (hF : ∀ b, F b → F' b) (hc : coe x.t x.v T = some v) (hp : T.hold = true) {cs : List Value} (hx : Rep F (mem w) ρ x.t x.v cs) : Rep F' (mem w) ρp T v cs :=
 Rep.hold hpl _ _ _ hp (Rep.mono (ρ' := ρ) hF (fun _ _ _ _ h => h) (fun _ _ h => h) _ _ _ (coe_law _ _ _ _ _ hc hx))
theorem part_rd {ri : RI} {u t : Ty} {ys : List u.den} (ho : ORep F w ρ ri ⟨u, ys⟩) {f : u.den → t.den} {v1 v2 : Nat} {A : Option Addr} {c : Nat} (q1 : v2 ≤ c) (q3 : v1 + v2 ≤ ri.n) (q4 : v2 = 0 ∨ ∃ p, ri.A = some p ∧ A = some (adr (p.1, p.2 + v1 * ri.sz)))
  (hA : ∀ p, ri.A = some p → F' p.1) (hs : t.size = u.size) (hc : ∀ x ds, x ∈ (ys.drop v1).take v2 → Rep F (mem w) ρ u x ds → Rep F' (mem w) ρp t (f x) ds) : Rep F' (mem w) ρp (.slice t) (((ys.drop v1).take v2).map f) [.slice A v2 c] := by
 have hl : ((ys.drop v1).take v2).length = v2 := by simp only [List.length_take, List.length_drop]; have : ri.n = ys.length := ho.n; omega
 refine ⟨A, v2, c, rfl, by rw [List.length_map, hl], q1, fun h0 => ?_⟩
 rcases q4 with q4 | ⟨p, hp, q4⟩
 ·exact absurd q4 h0
 ·refine ⟨_, q4, hA p hp, fun i x hi => ?_⟩
  rw [List.getElem?_map] at hi
  cases hx : ((ys.drop v1).take v2)[i]? with
  | none => rw [hx] at hi; cases hi
  | some y =>
   rw [hx] at hi
   cases hi
   have hi' : ys[v1 + i]? = some y := by
    rw [List.getElem?_take] at hx
    split at hx
    ·simpa [List.getElem?_drop] using hx
    ·cases hx
   obtain ⟨ds, h1, h2⟩ := ho.cells p hp (v1 + i) y hi'
   refine ⟨ds, ?_, hc y ds (List.mem_of_getElem? hx) h2⟩
   have e : p.2 + (v1 + i) * ri.sz = p.2 + v1 * ri.sz + i * t.size := by rw [Nat.add_mul, show ri.sz = t.size from (ho.sz.trans hs.symm)]; omega
   rw [e] at h1
   exact h1
theorem rdE_size : ∀ (t u : Ty) {r : RdE t u}, rdE s.pls t u = some r → t.size = u.size := by
 intro t u
 fun_induction rdE s.pls t u with
 | case1 t u r hr ih => intro r' h; simpa [Ty.size] using ih hr
 | case2 t u hr ih => intro r' h; cases h
 | case3 a b c d r q h1 h2 ih1 ih2 => intro r' h; simp [Ty.size, ih1 h2, ih2 h1]
 | case4 => intro r' h; cases h
 | case5 => intro r' h; rfl
 | case6 => intro r' h; rfl
 | case7 => intro r' h; rfl
 | case8 => intro r' h; cases h
 | case9 => intro r' _; rfl
 | case10 => intro r' h; cases h
 | case11 => intro r' _; rfl
 | case12 => intro r' h; cases h
 | case13 => intro r' _; rfl
 | case14 => intro r' h; cases h
 | case15 => intro r' h; cases h
theorem hand_rd (h : RelAt F0 M W0 F ρ s a w) {p : Nat} {q : PL} (hq : pol s.pls p = some q) {t : Ty} {f : q.t.den → t.den} {v : (Ty.psl p).den} (hok' : hok q.l v = true) {cs : List Value} (hx : Rep F (mem w) ρ (.psl p) v cs) (hs : t.size = q.t.size)
  (hf : ∀ i c ri b, s.cont (.pl p i) = some c → ρ (.pl p i) = some ri → ri.blk b → F' b) (hc : q.t.hold = true → ∀ x ds, x ∈ hgetD q.l v → Rep F (mem w) ρ q.t x ds → Rep F' (mem w) ρp t (f x) ds) : Rep F' (mem w) ρp (.slice t) ((hgetD q.l v).map f) cs := by
 rcases hx with ⟨rfl, rfl⟩ | ⟨i, u, rfl, ri, h1, A, c, rfl, q1, q2, q3, q4, _⟩
 ·exact ⟨none, 0, 0, rfl, rfl, Nat.le_refl _, fun h => absurd rfl h⟩
 ·obtain ⟨v1, v2⟩ := u
  cases hl : q.l[i]? with
  | none => simp [hok, hget, hl] at hok'
  | some o =>
   cases o with
   | none => simp [hok, hget, hl] at hok'
   | some ys =>
    have hg : hgetD q.l (some (i, v1, v2)) = (ys.drop v1).take v2 := by simp [hgetD, hget, hl]
    rw [hg] at hc ⊢
    obtain ⟨ri', h1', ho⟩ := h.obj (.pl p i) _ (obj_pl hq hl)
    rw [h1] at h1'; cases h1'
    refine part_rd ho q1 q3 ?_ (fun pp hA => hf i _ ri pp.1 (St.obj_cont.1 (obj_pl hq hl)) h1 (RI.blkA hA)) hs (hc ho.pure)
    rcases q4 with q4 | q4
    ·left; simp only at q1; omega
    ·exact .inr q4
theorem rdE_law (h : RelAt F0 M W0 F ρ s a w) (hpl : ∀ p i x, ρ (.pl p i) = some x → ρp (.pl p i) = some x) (hF : ∀ b, F b → F' b) : ∀ (t u : Ty) {r : RdE t u} {v : u.den} {cs : List Value}, rdE s.pls t u = some r → r.ok v = true → Rep F (mem w) ρ u v cs → Reads s ρ F' r.ps → Rep F' (mem w) ρp t (r.f v) cs := by
 intro t u
 fun_induction rdE s.pls t u with
 | case1 t u r hr ih => intro r' v cs hh hok hx hf; cases hh; exact ih hr hok hx hf
 | case2 t u hr ih => intro r' v cs hh; cases hh
 | case3 a b c d r q h1 h2 ih1 ih2 =>
  intro r' v cs hh hok hx hf
  cases hh
  simp only [Bool.and_eq_true] at hok
  obtain ⟨c1, c2, e, g1, g2⟩ := hx
  exact ⟨c1, c2, e, ih1 h2 hok.1 g1 hf.left, ih2 h1 hok.2 g2 hf.right⟩
 | case4 => intro r' v cs hh; cases hh
 | case5 p q hq =>
  intro r' v cs hh hok hx hf
  cases hh
  have := hand_rd (F' := F') (ρp := ρp) (t := q.t) (f := fun x => x) h hq hok hx rfl (fun i c ri b h1 h2 h3 => hf (.pool p) (by simp) (.pl p i) c ri b ⟨i, rfl⟩ h1 h2 h3) (fun hp x ds _ hr => Rep.hold hpl _ _ _ hp (Rep.mono (ρ' := ρ) hF (fun _ _ _ _ h => h) (fun _ _ h => h) _ _ _ hr))
  simpa using this
 | case6 t p q hq hne r hr ih =>
  intro r' v cs hh hok hx hf
  cases hh
  simp only [Bool.and_eq_true] at hok
  exact hand_rd h hq hok.1 hx (rdE_size _ _ hr) (fun i c ri b h1 h2 h3 => hf (.pool p) (by simp) (.pl p i) c ri b ⟨i, rfl⟩ h1 h2 h3) (fun _ x ds hm hr' => ih hr (List.all_eq_true.1 hok.2 x hm) hr' (fun Q hQ => hf Q (by simp [hQ])))
 | case7 => intro r' v cs hh; cases hh
 | case8 => intro r' v cs hh; cases hh
 | case9 =>
  rename_i hp
  intro r' v cs hh hok hx hf
  cases hh
  exact Rep.hold hpl _ _ _ (by simpa [Ty.hold] using hp) (Rep.mono (ρ' := ρ) hF (fun _ _ _ _ h => h) (fun _ _ h => h) _ _ _ hx)
 | case10 => intro r' v cs hh; cases hh
 | case11 t u hne r hr ih =>
  intro r' v cs hh hok hx hf
  cases hh
  obtain ⟨A, n, c, e, hn, hc, hg⟩ := hx
  refine ⟨A, n, c, e, by rw [List.length_map]; exact hn, hc, fun h0 => ?_⟩
  obtain ⟨p, e1, hp, hg⟩ := hg h0
  refine ⟨p, e1, hF _ hp, fun i x hi => ?_⟩
  rw [List.getElem?_map] at hi
  cases hy : v[i]? with
  | none => rw [hy] at hi; cases hi
  | some y =>
   rw [hy] at hi
   cases hi
   obtain ⟨ds, h1, h2⟩ := hg i y hy
   rw [← rdE_size _ _ hr] at h1
   exact ⟨ds, h1, ih hr (List.all_eq_true.1 hok y (List.mem_of_getElem? hy)) h2 hf⟩
 | case12 => intro r' v cs hh; cases hh
 | case13 =>
  rename_i hp
  intro r' v cs hh hok hx hf
  cases hh
  exact Rep.hold hpl _ _ _ hp (Rep.mono (ρ' := ρ) hF (fun _ _ _ _ h => h) (fun _ _ h => h) _ _ _ hx)
 | case14 => intro r' v cs hh; cases hh
 | case15 => intro r' v cs hh; cases hh
theorem ow_rd {r : Nat} {ri : RI} {u t : Ty} {ys : List u.den} (hr : ρ r = some ri) (ho : ORep F w ρ ri ⟨u, ys⟩) {f : u.den → t.den} {v : Unit} {cs : List Value} (hx : Rep F (mem w) ρ (.ow r) v cs) (hA : ∀ p, ri.A = some p → F' p.1) (hs : t.size = u.size)
  (hc : ∀ x ds, x ∈ ys → Rep F (mem w) ρ u x ds → Rep F' (mem w) ρp t (f x) ds) : Rep F' (mem w) ρp (.slice t) (ys.map f) cs := by
 obtain ⟨ri', h2, e⟩ := hx
 rw [hr] at h2; cases h2
 subst e
 have hn : ri.n = ys.length := ho.n
 have := part_rd (F' := F') (ρp := ρp) ho (f := f) (v1 := 0) (v2 := ri.n) (A := ri.raw) (c := ri.c) ho.le (by omega) (by
  cases hA' : ri.A with
  | none => left; have := ho.none hA'; have := ho.le; omega
  | some p =>
   rcases ho.raw with h1 | h1
   ·left; have := ho.le; omega
   ·right; exact ⟨p, rfl, by rw [h1, hA']; simp⟩) hA hs (fun x ds hm => hc x ds (List.mem_of_mem_take (by simpa using hm)))
 rw [List.drop_zero, hn, List.take_length, ← hn] at this
 exact this
theorem osl_rd {r : Nat} {ri : RI} {u t : Ty} {ys : List u.den} (hr : ρ r = some ri) (ho : ORep F w ρ ri ⟨u, ys⟩) {f : u.den → t.den} {v : Nat × Nat} {cs : List Value} (hx : Rep F (mem w) ρ (.osl r) v cs) (hA : ∀ p, ri.A = some p → F' p.1) (hs : t.size = u.size)
  (hc : ∀ x ds, x ∈ (ys.drop v.1).take v.2 → Rep F (mem w) ρ u x ds → Rep F' (mem w) ρp t (f x) ds) : Rep F' (mem w) ρp (.slice t) (((ys.drop v.1).take v.2).map f) cs := by
 obtain ⟨ri', h2, A, c, e, q1, q2, q3, q4, _⟩ := hx
 rw [hr] at h2; cases h2
 subst e
 refine part_rd ho q1 q3 ?_ hA hs hc
 rcases q4 with q4 | q4
 ·left; omega
 ·exact .inr q4
theorem rd_leaf {T : Ty} (he : ∀ x, rdV s T x = (coe x.t x.v T).map fun v => (v, [], true)) {x : TV} {v : T.den} {fr : List RQ} {k : Bool} {cs : List Value} (hpl : ∀ p i x, ρ (.pl p i) = some x → ρp (.pl p i) = some x) (hF : ∀ b, F b → F' b) (hr : rdV s T x = some (v, fr, k)) (hp : T.hold = true) (hx : Rep F (mem w) ρ x.t x.v cs) :
  Rep F' (mem w) ρp T v cs := by
 rw [he] at hr
 cases hc : coe x.t x.v T with
 | none => rw [hc] at hr; cases hr
 | some u => rw [hc] at hr; cases hr; exact coe_read hpl hF hc hp hx
theorem rd_law (h : RelAt F0 M W0 F ρ s a w) (hpl : ∀ p i x, ρ (.pl p i) = some x → ρp (.pl p i) = some x) (hF : ∀ b, F b → F' b) : ∀ (T : Ty) (x : TV) {v : T.den} {fr : List RQ} {cs : List Value}, rdV s T x = some (v, fr, true) → T.hold = true → Rep F (mem w) ρ x.t x.v cs →
  Reads s ρ F' fr → Rep F' (mem w) ρp T v cs
 | .st t, x, v, fr, cs, hr, hp, hx, hf => by
  obtain ⟨xt, xv⟩ := x
  simp only [rdV] at hr
  split at hr
  ·rename_i e; cases e
   exact rd_law h hpl hF t _ hr hp hx hf
  ·cases hr
 | .pair p q, x, v, fr, cs, hr, hp, hx, hf => by
  obtain ⟨xt, xv⟩ := x
  simp only [rdV] at hr
  split at hr
  ·rename_i a b u e
   cases e
   split at hr
   ·rename_i y l k z m j h1 h2
    simp only [Option.some.injEq, Prod.mk.injEq, Bool.and_eq_true] at hr
    obtain ⟨rfl, rfl, rfl, rfl⟩ := hr
    simp only [Ty.hold, Bool.and_eq_true] at hp
    obtain ⟨c1, c2, e, g1, g2⟩ := hx
    exact ⟨c1, c2, e, rd_law h hpl hF p _ h1 hp.1 g1 hf.left, rd_law h hpl hF q _ h2 hp.2 g2 hf.right⟩
   ·cases hr
  ·cases hr
 | .slice t, x, v, fr, cs, hr, hp, hx, hf => by
  simp only [rdV] at hr
  split at hr
  ·rename_i u hc; cases hr; exact coe_read hpl hF hc hp hx
  ·obtain ⟨xt, xv⟩ := x
   split at hr
   ·rename_i q u e
    cases e
    split at hr
    ·rename_i ob hob
     obtain ⟨obt, obx⟩ := ob
     obtain ⟨ri, h1, ho⟩ := h.obj q _ hob
     split at hr
     ·rename_i ht
      cases ht
      cases hr
      have := ow_rd (F' := F') (ρp := ρp) (t := obt) (f := fun x => x) h1 ho hx (hf.reg (q := q) (by simp) (St.obj_cont.1 hob) h1) rfl (fun x ds _ hr => Rep.hold hpl _ _ _ ho.pure (Rep.mono (ρ' := ρ) hF (fun _ _ _ _ h => h) (fun _ _ h => h) _ _ _ hr))
      simpa using this
     ·split at hr
      ·rename_i r hr'
       simp only [Option.some.injEq, Prod.mk.injEq] at hr
       obtain ⟨rfl, rfl, hall⟩ := hr
       exact ow_rd h1 ho hx (hf.reg (q := q) (by simp) (St.obj_cont.1 hob) h1) (rdE_size _ _ hr') (fun x ds hm hx' => rdE_law h hpl hF _ _ hr' (List.all_eq_true.1 hall x hm) hx' (fun Q hQ => hf Q (by simp [hQ])))
      ·cases hr
    ·cases hr
   ·rename_i q u e
    cases e
    split at hr
    ·rename_i ob hob
     obtain ⟨obt, obx⟩ := ob
     obtain ⟨ri, h1, ho⟩ := h.obj q _ hob
     split at hr
     ·rename_i ht
      cases ht
      cases hr
      have := osl_rd (F' := F') (ρp := ρp) (t := obt) (f := fun x => x) h1 ho hx (hf.reg (q := q) (by simp) (St.obj_cont.1 hob) h1) rfl (fun x ds _ hr => Rep.hold hpl _ _ _ ho.pure (Rep.mono (ρ' := ρ) hF (fun _ _ _ _ h => h) (fun _ _ h => h) _ _ _ hr))
      simpa using this
     ·split at hr
      ·rename_i r hr'
       simp only [Option.some.injEq, Prod.mk.injEq] at hr
       obtain ⟨rfl, rfl, hall⟩ := hr
       exact osl_rd h1 ho hx (hf.reg (q := q) (by simp) (St.obj_cont.1 hob) h1) (rdE_size _ _ hr') (fun x ds hm hx' => rdE_law h hpl hF _ _ hr' (List.all_eq_true.1 hall x hm) hx' (fun Q hQ => hf Q (by simp [hQ])))
      ·cases hr
    ·cases hr
   ·rename_i p u e
    cases e
    split at hr
    ·rename_i r hr'
     simp only [Option.some.injEq, Prod.mk.injEq] at hr
     obtain ⟨rfl, rfl, hok⟩ := hr
     exact rdE_law h hpl hF _ _ hr' hok hx hf
    ·cases hr
   ·rename_i p u e
    cases e
    split at hr
    ·rename_i r hr'
     simp only [Option.some.injEq, Prod.mk.injEq] at hr
     obtain ⟨rfl, rfl, hok⟩ := hr
     exact rdE_law h hpl hF _ _ hr' hok hx hf
    ·cases hr
   ·cases hr
 | .rad t o, x, v, fr, cs, hr, hp, hx, hf => by
  simp only [rdV] at hr
  split at hr
  ·rename_i u hc; cases hr; exact coe_read hpl hF hc hp hx
  ·obtain ⟨xt, xv⟩ := x
   split at hr
   ·rename_i q o' u e
    cases e
    split at hr
    ·rename_i y hy
     split at hr
     ·rename_i ho
      have ho : o = o' := by simpa using ho
      subst ho
      cases hrec : rdV s t y with
      | none => rw [hrec] at hr; cases hr
      | some z =>
       obtain ⟨z, l, k⟩ := z
       rw [hrec] at hr
       simp only [Option.map_some, Option.some.injEq, Prod.mk.injEq] at hr
       obtain ⟨rfl, rfl, rfl⟩ := hr
       obtain ⟨ri, h1, hb⟩ := h.box q y hy
       obtain ⟨ri', p, h2, h3, e⟩ := hx
       rw [h1] at h2; cases h2
       subst e
       obtain ⟨p', ds, cells, el, g1, g2, g3, g4, g5⟩ := hb.ex
       rw [h3] at g1; cases g1
       exact ⟨p, ds, rfl, hf.reg (q := q) (by simp) (St.bx_cont.1 hy) h1 p h3, g4, rd_law h hpl hF t y hrec (Ty.hold_of_pure _ hp) g5 hf.left⟩
     ·cases hr
    ·cases hr
   ·cases hr
 | .ptr t, x, v, fr, cs, hr, hp, hx, hf => by
  simp only [rdV] at hr
  split at hr
  ·rename_i u hc; cases hr; exact coe_read hpl hF hc hp hx
  ·obtain ⟨xt, xv⟩ := x
   split at hr
   ·rename_i q u e
    cases e
    split at hr
    ·rename_i y hy
     cases hrec : rdV s t y with
     | none => rw [hrec] at hr; cases hr
     | some z =>
      obtain ⟨z, l, k⟩ := z
      rw [hrec] at hr
      simp only [Option.map_some, Option.some.injEq, Prod.mk.injEq] at hr
      obtain ⟨rfl, rfl, rfl⟩ := hr
      obtain ⟨ri, h1, hb⟩ := h.box q y hy
      obtain ⟨ri', p, h2, h3, e⟩ := hx
      rw [h1] at h2; cases h2
      subst e
      obtain ⟨p', ds, cells, el, g1, g2, g3, g4, g5⟩ := hb.ex
      rw [h3] at g1; cases g1
      exact .inr ⟨z, p, ds, rfl, rfl, hf.reg (q := q) (by simp) (St.bx_cont.1 hy) h1 p h3, g4, rd_law h hpl hF t y hrec (Ty.hold_of_pure _ hp) g5 hf.left⟩
    ·cases hr
   ·cases hr
 | .clo f t, x, v, fr, cs, hr, hp, hx, hf => by
  simp only [rdV] at hr
  split at hr
  ·rename_i u hc; cases hr; exact coe_read hpl hF hc hp hx
  ·obtain ⟨xt, xv⟩ := x
   split at hr
   ·rename_i g a' u e
    cases e
    split at hr
    ·rename_i hg
     subst hg
     obtain ⟨ds, e, h1⟩ := hx
     exact ⟨ds, e, rd_law h hpl hF t _ hr (Ty.hold_of_pure _ hp) h1 hf⟩
    ·cases hr
   ·cases hr
 | .int _, x, v, fr, cs, hr, hp, hx, hf => rd_leaf (fun _ => rfl) hpl hF hr hp hx
 | .bool, x, v, fr, cs, hr, hp, hx, hf => rd_leaf (fun _ => rfl) hpl hF hr hp hx
 | .str, x, v, fr, cs, hr, hp, hx, hf => rd_leaf (fun _ => rfl) hpl hF hr hp hx
 | .sln _, x, v, fr, cs, hr, hp, hx, hf => rd_leaf (fun _ => rfl) hpl hF hr hp hx
 | .unit, x, v, fr, cs, hr, hp, hx, hf => rd_leaf (fun _ => rfl) hpl hF hr hp hx
 | .ow _, x, v, fr, cs, hr, hp, hx, hf => by cases hp
 | .osl _, x, v, fr, cs, hr, hp, hx, hf => by cases hp
 | .oad _ _, x, v, fr, cs, hr, hp, hx, hf => by cases hp
 | .tup _, x, v, fr, cs, hr, hp, hx, hf => by cases hp
 | .nils, x, v, fr, cs, hr, hp, hx, hf => rd_leaf (fun _ => rfl) hpl hF hr hp hx
 | .nilp, x, v, fr, cs, hr, hp, hx, hf => rd_leaf (fun _ => rfl) hpl hF hr hp hx
 | .lost, x, v, fr, cs, hr, hp, hx, hf => by
  simp only [rdV] at hr
  split at hr
  ·rename_i hc
   simp only [Bool.and_eq_true, beq_iff_eq] at hc
   have hl := Rep.length _ _ _ hx
   rw [hc.1.1] at hl
   obtain ⟨c, rfl⟩ := List.length_eq_one_iff.1 hl
   exact ⟨c, rfl, Rep.one _ _ _ hc.1.2 hx c (by simp)⟩
  ·cases hr
 | .any, x, v, fr, cs, hr, hp, hx, hf => by cases hp
 | .psl _, x, v, fr, cs, hr, hp, hx, hf => rd_leaf (fun _ => rfl) hpl hF hr hp hx
 | .pdd _ _, x, v, fr, cs, hr, hp, hx, hf => by cases hp
 | .pad _ _, x, v, fr, cs, hr, hp, hx, hf => by cases hp
 | .mpv _, x, v, fr, cs, hr, hp, hx, hf => by cases hp
 | .mpc _ _, x, v, fr, cs, hr, hp, hx, hf => by cases hp
 | .mit _ _, x, v, fr, cs, hr, hp, hx, hf => by cases hp
 | .fmp k t, x, v, fr, cs, hr, hp, hx, hf => by
  simp only [rdV] at hr
  split at hr
  ·rename_i u hc; cases hr; exact coe_read hpl hF hc hp hx
  ·obtain ⟨xt, xv⟩ := x
   split at hr
   ·rename_i q u e
    cases e
    split at hr
    ·rename_i k' u l hl
     split at hr
     ·rename_i hk
      subst hk
      split at hr
      ·rename_i r hr'
       split at hr
       ·rename_i hs
        simp only [Option.some.injEq, Prod.mk.injEq] at hr
        obtain ⟨rfl, rfl, hall⟩ := hr
        obtain ⟨ri, h1, ho⟩ := h.cobj q _ hl
        have ho : MRep F w ρ ri _ u l := ho
        obtain ⟨b, es, clock, g1, g2, g3, _⟩ := ho.ex
        obtain ⟨ri', p, h2, h3, rfl⟩ := hx
        rw [h1] at h2; cases h2
        rw [g1] at h3; cases h3
        refine ents_fmp g2 (hf.reg (q := q) (by simp) hl h1 _ g1) ?_
        exact g3.maps (by simpa using hs) fun p hp ds hx' => rdE_law h hpl hF _ _ hr' (List.all_eq_true.1 hall p hp) hx' (fun Q hQ => hf Q (by simp [hQ]))
       ·cases hr
      ·cases hr
     ·cases hr
    ·cases hr
   ·cases hr
 | .vec _, x, v, fr, cs, hr, hp, hx, hf => by cases hp
 | .bx _, x, v, fr, cs, hr, hp, hx, hf => by cases hp
 | .iter, x, v, fr, cs, hr, hp, hx, hf => by cases hp
 | .nxt _ _, x, v, fr, cs, hr, hp, hx, hf => by cases hp
end Go.Vu
