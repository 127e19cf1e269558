/- Value semantics, part 18b: values closed with what they own; arguments. -/
import Derived.Test.YtfmhkcidechgdaaGreatVtLaw12
set_option linter.unusedVariables false
namespace Go.Vt
open Go
variable {P : Program} {tb : Tab} {R : Type} {F0 M F F' : Nat → Prop} {W0 w w' : World} {ρ : Nat → Option RI} {s : St} {a : Act} {m : Nat → Nat → Option Value} {id : Nat}
theorem TRep.length : ∀ (t : Ty) (v : t.den) (cs : List Value) (ris : List RI), TRep F w t v cs ris → cs.length = t.size
  | .vec t, xs, cs, ris, h => by obtain ⟨ri, rfl, rfl, ho⟩ := h; rfl
  | .bx t, v, cs, ris, h => by obtain ⟨ri, rs, p, ds, cells, el, rfl, rfl, _⟩ := h; rfl
  | .iter, v, cs, ris, h => by obtain ⟨ri, rfl, rfl, ho⟩ := h; rfl
  | .st t, v, cs, ris, h => TRep.length t v cs ris h
  | .pair a b, v, cs, ris, ⟨c1, c2, r1, r2, e1, e2, h1, h2⟩ => by
    subst e1; simp [Ty.size, TRep.length a _ _ _ h1, TRep.length b _ _ _ h2]
  | .int _, v, cs, ris, h => Rep.length _ _ _ h.2.2
  | .bool, v, cs, ris, h => Rep.length _ _ _ h.2.2
  | .str, v, cs, ris, h => Rep.length _ _ _ h.2.2
  | .unit, v, cs, ris, h => Rep.length _ _ _ h.2.2
  | .slice _, v, cs, ris, h => Rep.length _ _ _ h.2.2
  | .sln _, v, cs, ris, h => Rep.length _ _ _ h.2.2
  | .ptr _, v, cs, ris, h => Rep.length _ _ _ h.2.2
  | .rad _ _, v, cs, ris, h => Rep.length _ _ _ h.2.2
  | .ow _, v, cs, ris, h => Rep.length _ _ _ h.2.2
  | .osl _, v, cs, ris, h => Rep.length _ _ _ h.2.2
  | .oad _ _, v, cs, ris, h => Rep.length _ _ _ h.2.2
  | .clo _ _, v, cs, ris, h => Rep.length _ _ _ h.2.2
  | .tup _, v, cs, ris, h => Rep.length _ _ _ h.2.2
  | .nils, v, cs, ris, h => Rep.length _ _ _ h.2.2
  | .nilp, v, cs, ris, h => Rep.length _ _ _ h.2.2
  | .lost, v, cs, ris, h => Rep.length _ _ _ h.2.2
  | .any, v, cs, ris, h => Rep.length _ _ _ h.2.2
  | .nxt _ _, v, cs, ris, h => Rep.length _ _ _ h.2.2
  | .pad _ _, v, cs, ris, h => Rep.length _ _ _ h.2.2
structure OwnR (s : St) (ρ : Nat → Option RI) (o : Option Nat × Bool) (ri : RI) : Prop where
  whole : ∀ q, o = (some q, false) → ρ q = some ri
  part : ∀ q, o.1 = some q → ∃ c rq, s.cont q = some c ∧ ρ q = some rq ∧ ∀ b, ri.blk b → rq.blk b
  empty : o.1 = none → ∀ b, ¬ ri.blk b
def OwnRs (s : St) (ρ : Nat → Option RI) : List (Option Nat × Bool) → List RI → Prop
  | [], ris => ris = []
  | o :: os, ris => ∃ ri rs, ris = ri :: rs ∧ OwnR s ρ o ri ∧ OwnRs s ρ os rs
theorem OwnRs.append : ∀ {o1 o2 : List (Option Nat × Bool)} {r1 r2 : List RI}, OwnRs s ρ o1 r1 → OwnRs s ρ o2 r2 → OwnRs s ρ (o1 ++ o2) (r1 ++ r2)
  | [], _, _, _, h1, h2 => by rw [show _ = [] from h1]; exact h2
  | _ :: _, _, _, _, ⟨ri, rs, e, h3, h4⟩, h2 => by subst e; exact ⟨ri, _, rfl, h3, OwnRs.append h4 h2⟩
theorem OwnRs.length : ∀ {o : List (Option Nat × Bool)} {r : List RI}, OwnRs s ρ o r → o.length = r.length
  | [], _, h => by rw [show _ = [] from h]; rfl
  | _ :: _, _, ⟨ri, rs, e, h3, h4⟩ => by subst e; simp [OwnRs.length h4]
theorem OwnRs.get : ∀ {o : List (Option Nat × Bool)} {r : List RI}, OwnRs s ρ o r → ∀ {i : Nat} {ri : RI}, r[i]? = some ri → ∃ x, o[i]? = some x ∧ OwnR s ρ x ri
  | [], _, h, i, ri, hi => by rw [show _ = [] from h] at hi; simp at hi
  | _ :: _, _, ⟨ri0, rs, e, h3, h4⟩, i, ri, hi => by
    subst e
    cases i with
    | zero => simp only [List.getElem?_cons_zero, Option.some.injEq] at hi; subst hi; exact ⟨_, rfl, h3⟩
    | succ i => obtain ⟨x, h5, h6⟩ := OwnRs.get h4 (i := i) (by simpa using hi); exact ⟨x, by simpa using h5, h6⟩
theorem osl_own (h : RelAt F0 M W0 F ρ s a w) {q : Nat} {v : Nat × Nat} {ob : OB} (hob : s.obj q = some ob) {cs : List Value} (hx : Rep F (mem w) ρ (.osl q) v cs) :
    ∃ ri : RI, cs = [ri.val] ∧ ORep F w ρ ri ⟨ob.t, (ob.xs.drop v.1).take v.2⟩ ∧ OwnR s ρ (some q, true) ri := by
  obtain ⟨ri, h1, h2⟩ := h.obj q ob hob
  obtain ⟨ri', e4, A, c, e5, g1, g2, g3, g4, _⟩ := hx
  rw [h1] at e4; cases e4
  subst e5
  have hsz := h2.sz
  have hn := h2.n
  have keyA : ∀ p, (if c = 0 then none else ri.A.map fun p => (p.1, p.2 + v.1 * ri.sz)) = some p → ∃ p0, ri.A = some p0 ∧ p = (p0.1, p0.2 + v.1 * ri.sz) := fun p hA => by
    split at hA
    · cases hA
    · cases hp : ri.A with
      | none => rw [hp] at hA; cases hA
      | some p0 => rw [hp] at hA; cases hA; exact ⟨p0, rfl, rfl⟩
  refine ⟨⟨if c = 0 then none else ri.A.map fun p => (p.1, p.2 + v.1 * ri.sz), A, v.2, c, ri.sz, []⟩, rfl, ⟨?_, hsz, g1, h2.pure, ?_, ?_, ?_, ?_, rfl⟩, fun q' e => (by cases e), fun q' e => ?_, fun e => (by cases e)⟩
  · show v.2 = ((ob.xs.drop v.1).take v.2).length
    simp only [List.length_take, List.length_drop]; omega
  · intro hA
    simp only at hA ⊢
    split at hA
    · assumption
    · rename_i hc
      rcases g4 with g4 | ⟨p, hp, _⟩
      · exact g4
      · rw [hp] at hA; cases hA
  · simp only
    split
    · left; assumption
    · rename_i hc
      right
      rcases g4 with g4 | ⟨p, hp, e⟩
      · exact absurd g4 hc
      · rw [hp, e]; rfl
  · intro p hA
    obtain ⟨p0, hp, rfl⟩ := keyA p hA
    obtain ⟨cells, el, b1, b2⟩ := h2.block p0 hp
    refine ⟨cells, el, b1, ?_⟩
    have : (v.1 + c) * ri.sz ≤ ri.c * ri.sz := Nat.mul_le_mul_right _ g2
    rw [Nat.add_mul] at this
    simp only
    omega
  · intro p hA i x hi
    obtain ⟨p0, hp, rfl⟩ := keyA p hA
    simp only [List.getElem?_take, List.getElem?_drop] at hi
    split at hi
    · obtain ⟨ds, d1, d2⟩ := h2.cells p0 hp (v.1 + i) x hi
      refine ⟨ds, ?_, d2⟩
      rwa [Nat.add_mul, ← Nat.add_assoc] at d1
    · cases hi
  · cases e
    refine ⟨_, ri, St.obj_cont.1 hob, h1, fun b hb => ?_⟩
    obtain ⟨p, hA, rfl⟩ := blk_nosub rfl hb
    obtain ⟨p0, hp, rfl⟩ := keyA p hA
    exact (show ri.blk p0.1 from RI.blkA hp)
theorem cls_leaf {T : Ty} (he : ∀ x, cls s T x = (match rdV s T x with | some (v, fr) => if T.pure then some (v, [], fr) else none | none => none)) (ht : ∀ v cs ris, TRep F' w T v cs ris = (ris = [] ∧ T.pure = true ∧ Rep F' (mem w) ρ0 T v cs))
    (h : RelAt F0 M W0 F ρ s a w) (hF : ∀ b, F b → F' b) {x : TV} {v : T.den} {own : List (Option Nat × Bool)} {fr : List Nat} {cs : List Value} (hc : cls s T x = some (v, own, fr)) (hx : Rep F (mem w) ρ x.t x.v cs)
    (hf : ∀ q ∈ fr, ∀ ri b, ρ q = some ri → ri.blk b → F' b) : ∃ ris, TRep F' w T v cs ris ∧ OwnRs s ρ own ris := by
  rw [he] at hc
  split at hc
  · rename_i u f hr
    split at hc
    · rename_i hp
      cases hc
      exact ⟨[], by rw [ht]; exact ⟨rfl, hp, rd_law h hF T x hr hp hx hf⟩, rfl⟩
    · cases hc
  · cases hc
theorem cls_law (h : RelAt F0 M W0 F ρ s a w) (hF : ∀ b, F b → F' b) : ∀ (T : Ty) (x : TV) {v : T.den} {own : List (Option Nat × Bool)} {fr : List Nat} {cs : List Value}, cls s T x = some (v, own, fr) → Rep F (mem w) ρ x.t x.v cs →
    (∀ q ∈ fr, ∀ ri b, ρ q = some ri → ri.blk b → F' b) → ∃ ris, TRep F' w T v cs ris ∧ OwnRs s ρ own ris
  | .vec t, x, v, own, fr, cs, hc, hx, hf => by
    obtain ⟨xt, xv⟩ := x
    simp only [cls] at hc
    split at hc
    · rename_i q u e
      cases e
      split at hc
      · rename_i ob hob
        split at hc
        · rename_i ht
          cases hc
          obtain ⟨obt, obx⟩ := ob
          cases ht
          obtain ⟨ri, h1, ho⟩ := h.obj q _ hob
          obtain ⟨ri', h2, e⟩ := hx
          rw [h1] at h2; cases h2
          subst e
          exact ⟨[ri], ⟨ri, rfl, rfl, (ho.mono hF (fun _ _ h => h)).pure0⟩, ri, [], rfl, ⟨fun q' e => (by cases e; exact h1), fun q' e => (by cases e; exact ⟨_, ri, St.obj_cont.1 hob, h1, fun _ h => h⟩), fun e => (by cases e)⟩, rfl⟩
        · cases hc
      · cases hc
    · rename_i q u e
      cases e
      split at hc
      · rename_i ob hob
        split at hc
        · rename_i ht
          cases hc
          obtain ⟨obt, obx⟩ := ob
          cases ht
          obtain ⟨ri, e, ho, hr⟩ := osl_own h hob hx
          subst e
          exact ⟨[ri], ⟨ri, rfl, rfl, (ho.mono hF (fun _ _ h => h)).pure0⟩, ri, [], rfl, hr, rfl⟩
        · cases hc
      · cases hc
    · rename_i u e
      cases e
      split at hc
      · rename_i hp
        cases hc
        cases hx
        refine ⟨[⟨none, none, 0, 0, t.size, []⟩], ⟨_, rfl, rfl, rfl, rfl, Nat.le_refl _, hp, fun _ => rfl, .inl rfl, fun p hA => (by cases hA), fun p hA => (by cases hA), rfl⟩, _, [], rfl, ⟨fun q e => (by cases e), fun q e => (by cases e), fun _ b hb => ?_⟩, rfl⟩
        obtain ⟨p, hA, _⟩ := blk_nosub rfl hb
        cases hA
      · cases hc
    · cases hc
  | .iter, x, v, own, fr, cs, hc, hx, hf => by
    obtain ⟨xt, xv⟩ := x
    simp only [cls] at hc
    split at hc
    · rename_i q u e
      cases e
      split at hc
      · rename_i y hy
        cases hc
        obtain ⟨ri, h1, hb⟩ := h.cobj q _ (St.itc_cont.1 hy)
        obtain ⟨ri', p, h2, h3, e⟩ := hx
        rw [h1] at h2; cases h2
        subst e
        have hb : SRep w ri v.1 v.2 := hb
        exact ⟨[ri], ⟨ri, rfl, by rw [h3]; rfl, hb⟩, ri, [], rfl, ⟨fun q' e => (by cases e; exact h1), fun q' e => (by cases e; exact ⟨_, ri, St.itc_cont.1 hy, h1, fun _ h => h⟩), fun e => (by cases e)⟩, rfl⟩
      · cases hc
    · cases hc
  | .bx t, x, v, own, fr, cs, hc, hx, hf => by
    obtain ⟨xt, xv⟩ := x
    simp only [cls] at hc
    split at hc
    · rename_i q u e
      cases e
      split at hc
      · rename_i y hy
        split at hc
        · rename_i v' l f hrec
          cases hc
          obtain ⟨ri, h1, hb⟩ := h.box q y hy
          obtain ⟨ri', p, h2, h3, e⟩ := hx
          rw [h1] at h2; cases h2
          subst e
          obtain ⟨p', ds, cells, el, g1, g2, g3, g4, g5⟩ := hb.ex
          rw [h3] at g1; cases g1
          obtain ⟨rs, k1, k2⟩ := cls_law h hF t y hrec g5 hf
          have l1 := TRep.length _ _ _ _ k1
          have l2 := Rep.length _ _ _ g5
          exact ⟨ri :: rs, ⟨ri, rs, p, ds, cells, el, rfl, rfl, h3, hb.bare, g2, by rw [← l1, l2]; exact g3, g4, k1⟩, ri, rs, rfl,
            ⟨fun q' e => (by cases e; exact h1), fun q' e => (by cases e; exact ⟨_, ri, St.bx_cont.1 hy, h1, fun _ h => h⟩), fun e => (by cases e)⟩, k2⟩
        · cases hc
      · cases hc
    · cases hc
  | .st t, x, v, own, fr, cs, hc, hx, hf => by
    obtain ⟨xt, xv⟩ := x
    simp only [cls] at hc
    split at hc
    · rename_i e; cases e
      exact cls_law h hF t _ hc hx hf
    · cases hc
  | .pair p q, x, v, own, fr, cs, hc, hx, hf => by
    obtain ⟨xt, xv⟩ := x
    simp only [cls] at hc
    split at hc
    · rename_i e
      cases e
      split at hc
      · rename_i h1 h2
        cases hc
        obtain ⟨c1, c2, e, g1, g2⟩ := hx
        obtain ⟨r1, k1, k2⟩ := cls_law h hF p _ h1 g1 fun q hq => hf q (by simp [hq])
        obtain ⟨r2, k3, k4⟩ := cls_law h hF q _ h2 g2 fun q hq => hf q (by simp [hq])
        exact ⟨r1 ++ r2, ⟨c1, c2, r1, r2, e, rfl, k1, k3⟩, k2.append k4⟩
      · cases hc
    · cases hc
  | .int _, x, v, own, fr, cs, hc, hx, hf => cls_leaf (fun _ => rfl) (fun _ _ _ => rfl) h hF hc hx hf
  | .bool, x, v, own, fr, cs, hc, hx, hf => cls_leaf (fun _ => rfl) (fun _ _ _ => rfl) h hF hc hx hf
  | .str, x, v, own, fr, cs, hc, hx, hf => cls_leaf (fun _ => rfl) (fun _ _ _ => rfl) h hF hc hx hf
  | .unit, x, v, own, fr, cs, hc, hx, hf => cls_leaf (fun _ => rfl) (fun _ _ _ => rfl) h hF hc hx hf
  | .slice _, x, v, own, fr, cs, hc, hx, hf => cls_leaf (fun _ => rfl) (fun _ _ _ => rfl) h hF hc hx hf
  | .sln _, x, v, own, fr, cs, hc, hx, hf => cls_leaf (fun _ => rfl) (fun _ _ _ => rfl) h hF hc hx hf
  | .ptr _, x, v, own, fr, cs, hc, hx, hf => cls_leaf (fun _ => rfl) (fun _ _ _ => rfl) h hF hc hx hf
  | .rad _ _, x, v, own, fr, cs, hc, hx, hf => cls_leaf (fun _ => rfl) (fun _ _ _ => rfl) h hF hc hx hf
  | .ow _, x, v, own, fr, cs, hc, hx, hf => cls_leaf (fun _ => rfl) (fun _ _ _ => rfl) h hF hc hx hf
  | .osl _, x, v, own, fr, cs, hc, hx, hf => cls_leaf (fun _ => rfl) (fun _ _ _ => rfl) h hF hc hx hf
  | .oad _ _, x, v, own, fr, cs, hc, hx, hf => cls_leaf (fun _ => rfl) (fun _ _ _ => rfl) h hF hc hx hf
  | .clo _ _, x, v, own, fr, cs, hc, hx, hf => cls_leaf (fun _ => rfl) (fun _ _ _ => rfl) h hF hc hx hf
  | .tup _, x, v, own, fr, cs, hc, hx, hf => cls_leaf (fun _ => rfl) (fun _ _ _ => rfl) h hF hc hx hf
  | .nils, x, v, own, fr, cs, hc, hx, hf => cls_leaf (fun _ => rfl) (fun _ _ _ => rfl) h hF hc hx hf
  | .nilp, x, v, own, fr, cs, hc, hx, hf => cls_leaf (fun _ => rfl) (fun _ _ _ => rfl) h hF hc hx hf
  | .lost, x, v, own, fr, cs, hc, hx, hf => cls_leaf (fun _ => rfl) (fun _ _ _ => rfl) h hF hc hx hf
  | .any, x, v, own, fr, cs, hc, hx, hf => cls_leaf (fun _ => rfl) (fun _ _ _ => rfl) h hF hc hx hf
  | .nxt _ _, x, v, own, fr, cs, hc, hx, hf => cls_leaf (fun _ => rfl) (fun _ _ _ => rfl) h hF hc hx hf
  | .pad _ _, x, v, own, fr, cs, hc, hx, hf => cls_leaf (fun _ => rfl) (fun _ _ _ => rfl) h hF hc hx hf
structure ClsOk (s : St) (own : List (Option Nat × Bool)) (fr : List Nat) (T : Ty) (x : TV) : Prop where
  live : ∀ q ∈ fr, ∃ c, s.cont q = some c
  cnt : own.length = cnt T
  tup : ∀ u, x.t ≠ .tup u
  st : isSt x.t = isSt T
theorem coe_tup {u : Ty} {v : (Ty.tup u).den} {T : Ty} {z : T.den} (h : coe (.tup u) v T = some z) : ∃ u', T = .tup u' := by
  cases T <;> first
    | exact ⟨_, rfl⟩
    | (simp [coe] at h)
theorem rd_facts : ∀ (T : Ty) (x : TV) {v : T.den} {fr : List Nat}, rdV s T x = some (v, fr) → T.pure = true → (∀ u, x.t ≠ .tup u) ∧ isSt x.t = isSt T := by
  intro T x v fr hr hp
  have leaf : ∀ {z : T.den}, coe x.t x.v T = some z → (∀ u, x.t ≠ .tup u) ∧ isSt x.t = isSt T := fun {z} hc => by
    refine ⟨fun u e => ?_, (coe_st hc).symm⟩
    obtain ⟨xt, xv⟩ := x
    simp only at e
    subst e
    obtain ⟨u', e⟩ := coe_tup hc
    subst e
    cases hp
  cases T
  case st t =>
    simp only [rdV] at hr
    split at hr
    · exact ⟨fun u e => (by cases e), rfl⟩
    · cases hr
  case pair a b =>
    simp only [rdV] at hr
    split at hr
    · exact ⟨fun u e => (by cases e), rfl⟩
    · cases hr
  case slice t =>
    simp only [rdV] at hr
    split at hr
    · rename_i hc; exact leaf hc
    · split at hr
      · exact ⟨fun u e => (by cases e), rfl⟩
      · exact ⟨fun u e => (by cases e), rfl⟩
      · cases hr
  case rad t o =>
    simp only [rdV] at hr
    split at hr
    · rename_i hc; exact leaf hc
    · split at hr
      · exact ⟨fun u e => (by cases e), rfl⟩
      · cases hr
  case ptr t =>
    simp only [rdV] at hr
    split at hr
    · rename_i hc; exact leaf hc
    · split at hr
      · exact ⟨fun u e => (by cases e), rfl⟩
      · cases hr
  case lost =>
    simp only [rdV] at hr
    split at hr
    · rename_i hc
      simp only [Bool.and_eq_true, beq_iff_eq, Bool.not_eq_true'] at hc
      refine ⟨fun u e => ?_, hc.2⟩
      rw [e] at hc
      exact absurd hc.1.2 (by simp [Ty.cell])
    · cases hr
  all_goals
    simp only [rdV] at hr
    first
      | (cases hc : coe x.t x.v _ with
         | none => rw [hc] at hr; cases hr
         | some u => exact leaf hc)
theorem cls_facts_leaf {T : Ty} (he : ∀ x, cls s T x = (match rdV s T x with | some (v, fr) => if T.pure then some (v, [], fr) else none | none => none)) (hn : Go.Vt.cnt T = 0) {x : TV} {v : T.den} {own : List (Option Nat × Bool)} {fr : List Nat} (hc : cls s T x = some (v, own, fr)) : ClsOk s own fr T x := by
  rw [he] at hc
  split at hc
  · rename_i u f hr
    split at hc
    · rename_i hp
      cases hc
      obtain ⟨h1, h2⟩ := rd_facts T x hr hp
      exact ⟨rd_live T x hr, hn.symm, h1, h2⟩
    · cases hc
  · cases hc
theorem cls_facts : ∀ (T : Ty) (x : TV) {v : T.den} {own : List (Option Nat × Bool)} {fr : List Nat}, cls s T x = some (v, own, fr) → ClsOk s own fr T x
  | .vec t, x, v, own, fr, hc => by
    simp only [cls] at hc
    split at hc
    · split at hc
      · split at hc
        · cases hc; exact ⟨fun q hq => (by cases hq), rfl, fun u e => (by cases e), rfl⟩
        · cases hc
      · cases hc
    · split at hc
      · split at hc
        · cases hc; exact ⟨fun q hq => (by cases hq), rfl, fun u e => (by cases e), rfl⟩
        · cases hc
      · cases hc
    · split at hc
      · cases hc; exact ⟨fun q hq => (by cases hq), rfl, fun u e => (by cases e), rfl⟩
      · cases hc
    · cases hc
  | .iter, x, v, own, fr, hc => by
    simp only [cls] at hc
    split at hc
    · split at hc
      · cases hc; exact ⟨fun q hq => (by cases hq), rfl, fun u e => (by cases e), rfl⟩
      · cases hc
    · cases hc
  | .bx t, x, v, own, fr, hc => by
    simp only [cls] at hc
    split at hc
    · split at hc
      · split at hc
        · rename_i hrec
          cases hc
          have ih := cls_facts t _ hrec
          exact ⟨ih.live, by simp [Go.Vt.cnt, ih.cnt], fun u e => (by cases e), rfl⟩
        · cases hc
      · cases hc
    · cases hc
  | .st t, x, v, own, fr, hc => by
    simp only [cls] at hc
    split at hc
    · have ih := cls_facts t _ hc
      exact ⟨ih.live, ih.cnt, fun u e => (by cases e), rfl⟩
    · cases hc
  | .pair p q, x, v, own, fr, hc => by
    simp only [cls] at hc
    split at hc
    · split at hc
      · rename_i h1 h2
        cases hc
        have i1 := cls_facts p _ h1
        have i2 := cls_facts q _ h2
        refine ⟨fun q hq => ?_, by simp [Go.Vt.cnt, i1.cnt, i2.cnt], fun u e => (by cases e), rfl⟩
        rcases List.mem_append.1 hq with hq | hq
        · exact i1.live q hq
        · exact i2.live q hq
      · cases hc
    · cases hc
  | .int _, x, v, own, fr, hc => cls_facts_leaf (fun _ => rfl) rfl hc
  | .bool, x, v, own, fr, hc => cls_facts_leaf (fun _ => rfl) rfl hc
  | .str, x, v, own, fr, hc => cls_facts_leaf (fun _ => rfl) rfl hc
  | .unit, x, v, own, fr, hc => cls_facts_leaf (fun _ => rfl) rfl hc
  | .slice _, x, v, own, fr, hc => cls_facts_leaf (fun _ => rfl) rfl hc
  | .sln _, x, v, own, fr, hc => cls_facts_leaf (fun _ => rfl) rfl hc
  | .ptr _, x, v, own, fr, hc => cls_facts_leaf (fun _ => rfl) rfl hc
  | .rad _ _, x, v, own, fr, hc => cls_facts_leaf (fun _ => rfl) rfl hc
  | .ow _, x, v, own, fr, hc => cls_facts_leaf (fun _ => rfl) rfl hc
  | .osl _, x, v, own, fr, hc => cls_facts_leaf (fun _ => rfl) rfl hc
  | .oad _ _, x, v, own, fr, hc => cls_facts_leaf (fun _ => rfl) rfl hc
  | .clo _ _, x, v, own, fr, hc => cls_facts_leaf (fun _ => rfl) rfl hc
  | .tup _, x, v, own, fr, hc => cls_facts_leaf (fun _ => rfl) rfl hc
  | .nils, x, v, own, fr, hc => cls_facts_leaf (fun _ => rfl) rfl hc
  | .nilp, x, v, own, fr, hc => cls_facts_leaf (fun _ => rfl) rfl hc
  | .lost, x, v, own, fr, hc => cls_facts_leaf (fun _ => rfl) rfl hc
  | .any, x, v, own, fr, hc => cls_facts_leaf (fun _ => rfl) rfl hc
  | .nxt _ _, x, v, own, fr, hc => cls_facts_leaf (fun _ => rfl) rfl hc
  | .pad _ _, x, v, own, fr, hc => cls_facts_leaf (fun _ => rfl) rfl hc
theorem cls_V (h : RelAt F0 M W0 F ρ s a w) (hF : ∀ b, F b → F' b) {T : Ty} {x : TV} {v : T.den} {own : List (Option Nat × Bool)} {fr : List Nat} {val : Value} (hc : cls s T x = some (v, own, fr)) (ha : isAny x.t = false) (hx : RepV F (mem w) ρ x.t x.v val)
    (hf : ∀ q ∈ fr, ∀ ri b, ρ q = some ri → ri.blk b → F' b) : ∃ ris, TRepV F' w T v val ris ∧ OwnRs s ρ own ris := by
  have hk := cls_facts T x hc
  have h1 := RepV1.of hx ha hk.tup
  unfold RepV1 at h1
  unfold TRepV
  rw [hk.st] at h1
  split at h1
  · rename_i hs
    obtain ⟨cs, e, h1⟩ := h1
    obtain ⟨ris, h2, h3⟩ := cls_law h hF T x hc h1 hf
    exact ⟨ris, by rw [if_pos hs]; exact ⟨cs, e, h2⟩, h3⟩
  · rename_i hs
    obtain ⟨ris, h2, h3⟩ := cls_law h hF T x hc h1.2 hf
    exact ⟨ris, by rw [if_neg hs]; exact ⟨h1.1, h2⟩, h3⟩
theorem rd_V (h : RelAt F0 M W0 F ρ s a w) (hF : ∀ b, F b → F' b) {T : Ty} {x : TV} {v : T.den} {fr : List Nat} {val : Value} (hc : rdV s T x = some (v, fr)) (hp : T.pure = true) (ha : isAny x.t = false) (hx : RepV F (mem w) ρ x.t x.v val)
    (hf : ∀ q ∈ fr, ∀ ri b, ρ q = some ri → ri.blk b → F' b) : RepV1 F' (mem w) ρ0 T v val := by
  obtain ⟨g1, g2⟩ := rd_facts T x hc hp
  have h1 := RepV1.of hx ha g1
  unfold RepV1 at *
  rw [g2] at h1
  split at h1
  · rename_i hs
    obtain ⟨cs, e, h1⟩ := h1
    rw [if_pos hs]
    exact ⟨cs, e, rd_law h hF T x hc hp h1 hf⟩
  · rename_i hs
    rw [if_neg hs]
    exact ⟨h1.1, rd_law h hF T x hc hp h1.2 hf⟩
structure MutAt (ρ : Nat → Option RI) (s : St) (mo : List (Option Nat × Bool)) (ps : List PM) (ris : List RI) (q : Nat) : Prop where
  ex : ∃ r T, mutRI ps ris = some r ∧ mutTy ps = some (.cl T) ∧ ρ q = some r ∧ q ∈ moRegs mo ∧ (∃ c, s.cont q = some c) ∧ ((∃ t, T = .vec t) ∨ ∃ t, T = .bx t)
theorem moRegs_append {a b : List (Option Nat × Bool)} : moRegs (a ++ b) = moRegs a ++ moRegs b := by simp [moRegs]
theorem mut_root (h : RelAt F0 M W0 F ρ s a w) {T : Ty} {x : TV} {v : T.den} {own : List (Option Nat × Bool)} {fr : List Nat} {ps : List PM} {xs : List TV} {q : Nat} (hc : cls s T x = some (v, own, fr)) (hm : mutReg s (.mu T :: ps) (x :: xs) = some q) {ris : List RI} (ho : OwnRs s ρ own ris) :
    (∃ r, ris.head? = some r ∧ ρ q = some r) ∧ q ∈ moRegs own ∧ (∃ c, s.cont q = some c) ∧ ((∃ t, T = .vec t) ∨ ∃ t, T = .bx t) := by
  obtain ⟨xt, xv⟩ := x
  cases T <;> simp only [mutReg, reduceCtorEq] at hm
  case vec t =>
    split at hm
    · rename_i q' u e
      cases e
      cases hm
      simp only [cls] at hc
      split at hc
      · rename_i ob hob
        split at hc
        · cases hc
          obtain ⟨ri, rs, e, h1, h2⟩ := ho
          subst e
          exact ⟨⟨ri, rfl, h1.whole _ rfl⟩, by simp [moRegs], cont_of_obj hob, .inl ⟨t, rfl⟩⟩
        · cases hc
      · cases hc
    · cases hm
  case bx t =>
    split at hm
    · rename_i q' u e
      cases e
      cases hm
      simp only [cls] at hc
      split at hc
      · rename_i y hy
        split at hc
        · cases hc
          obtain ⟨ri, rs, e, h1, h2⟩ := ho
          subst e
          exact ⟨⟨ri, rfl, h1.whole _ rfl⟩, by simp [moRegs], cont_of_bx hy, .inr ⟨t, rfl⟩⟩
        · cases hc
      · cases hc
    · cases hm
theorem args_law (h : RelAt F0 M W0 F ρ s a w) {Fc : Nat → Prop} (hF : ∀ b, F b → Fc b) : ∀ (ps : List PM) (xs : List TV) (vals : List Value) {v : PDen ps} {al : List Nat} {mo : List (Option Nat × Bool)},
    argsD s ps xs = some (v, al, mo) → RepL F (mem w) ρ xs vals → (∀ q ∈ al, ∀ ri b, ρ q = some ri → ri.blk b → Fc b) →
    ∃ ris, ArgsRep Fc w ps v vals ris ∧ OwnRs s ρ mo ris ∧ (∀ q ∈ al, ∃ c, s.cont q = some c) ∧ ∀ q, mutReg s ps xs = some q → (mutTy ps).isSome = true → MutAt ρ s mo ps ris q
  | [], [], vals, v, al, mo, he, hr, hal => by
    simp only [argsD] at he
    cases he
    exact ⟨[], ⟨hr, rfl⟩, rfl, fun q hq => (by simp at hq), fun q hq => (by simp [mutReg] at hq)⟩
  | [], _ :: _, vals, v, al, mo, he, hr, hal => by simp [argsD] at he
  | .ro t :: ps, [], vals, v, al, mo, he, hr, hal => by simp [argsD] at he
  | .mu t :: ps, [], vals, v, al, mo, he, hr, hal => by simp [argsD] at he
  | .own t :: ps, [], vals, v, al, mo, he, hr, hal => by simp [argsD] at he
  | .ro t :: ps, x :: xs, vals, v, al, mo, he, hr, hal => by
    obtain ⟨vx, r, e1, hx, hx1, hr'⟩ := hr
    subst e1
    simp only [argsD] at he
    cases hrec : argsD s ps xs with
    | none => simp [hrec] at he
    | some q =>
      obtain ⟨rv, al', mo'⟩ := q
      simp only [hrec] at he
      split at he
      · rename_i hpt
        simp only [Bool.and_eq_true, beq_iff_eq] at hpt
        split at he
        · rename_i u l hu
          cases he
          obtain ⟨ris, g1, g2, g3, g4⟩ := args_law h hF ps xs r hrec hr' (fun q hq => hal q (by simp [hq]))
          refine ⟨ris, ⟨vx, r, rfl, hpt.1, rd_V h hF hu hpt.1 hx1 hx fun q hq => hal q (by simp [hq]), g1⟩, g2, fun q hq => ?_, fun q hq hm => ?_⟩
          · rcases List.mem_append.1 hq with hq | hq
            · exact rd_live t x hu q hq
            · exact g3 q hq
          · obtain ⟨r', T, k⟩ := (g4 q (by simpa [mutReg] using hq) (by simpa [mutTy] using hm)).ex
            exact ⟨r', T, by simpa [mutRI] using k.1, by simpa [mutTy] using k.2.1, k.2.2⟩
        · cases he
      · cases he
  | .mu t :: ps, x :: xs, vals, v, al, mo, he, hr, hal => by
    obtain ⟨vx, r, e1, hx, hx1, hr'⟩ := hr
    subst e1
    simp only [argsD] at he
    cases hrec : argsD s ps xs with
    | none => simp [hrec] at he
    | some q =>
      obtain ⟨rv, al', mo'⟩ := q
      simp only [hrec] at he
      split at he
      · cases he
      · split at he
        · rename_i u l f hu
          cases he
          obtain ⟨ris, g1, g2, g3, g4⟩ := args_law h hF ps xs r hrec hr' (fun q hq => hal q (by simp [hq]))
          obtain ⟨r1, k1, k2⟩ := cls_V h hF hu hx1 hx fun q hq => hal q (by simp [hq])
          refine ⟨r1 ++ ris, ⟨vx, r, r1, ris, rfl, rfl, k1, g1⟩, k2.append g2, fun q hq => ?_, fun q hq hm => ?_⟩
          · rcases List.mem_append.1 hq with hq | hq
            · exact (cls_facts t x hu).live q hq
            · exact g3 q hq
          · obtain ⟨⟨r', e1, e2⟩, e3, e4, e5⟩ := mut_root h hu hq k2
            refine ⟨r', t, ?_, rfl, e2, by rw [moRegs_append]; simp [e3], e4, e5⟩
            cases r1 with
            | nil => cases e1
            | cons z r1 => cases e1; rfl
        · cases he
  | .own t :: ps, x :: xs, vals, v, al, mo, he, hr, hal => by
    obtain ⟨vx, r, e1, hx, hx1, hr'⟩ := hr
    subst e1
    simp only [argsD] at he
    cases hrec : argsD s ps xs with
    | none => simp [hrec] at he
    | some q =>
      obtain ⟨rv, al', mo'⟩ := q
      simp only [hrec] at he
      split at he
      · split at he
        · rename_i u l f hu
          cases he
          obtain ⟨ris, g1, g2, g3, g4⟩ := args_law h hF ps xs r hrec hr' (fun q hq => hal q (by simp [hq]))
          obtain ⟨r1, k1, k2⟩ := cls_V h hF hu hx1 hx fun q hq => hal q (by simp [hq])
          refine ⟨r1 ++ ris, ⟨vx, r, r1, ris, rfl, rfl, k1, g1⟩, k2.append g2, fun q hq => ?_, fun q hq hm => ?_⟩
          · rcases List.mem_append.1 hq with hq | hq
            · exact (cls_facts t x hu).live q hq
            · exact g3 q hq
          · obtain ⟨r', T, e1, e2, e3, e4, e5⟩ := (g4 q (by simpa [mutReg] using hq) (by simpa [mutTy] using hm)).ex
            have hl : r1.length = Go.Vt.cnt t := by rw [← k2.length]; exact (cls_facts t x hu).cnt
            refine ⟨r', T, ?_, by simpa [mutTy] using e2, e3, by rw [moRegs_append]; simp [e4], e5⟩
            simp only [mutRI]
            rw [List.drop_append_of_le_length (by omega), List.drop_of_length_le (by omega)]
            exact e1
        · cases he
      · cases he
end Go.Vt
