/- Value semantics, part 18b: values closed with what they own; arguments. -/
import Derived.Test.YtaeobljnmfbdmaaVuLaw12
set_option linter.unusedVariables false
namespace Go.Vu
open Go
variable {P : Program} {tb : Tab} {R : Type} {F0 : Bs} {M F F' : Nat → Prop} {W0 w w' : World} {ρ ρp : RK → Option RI} {s : St} {a : Act} {m : Nat → Nat → Option Value} {id : Nat}
theorem TRep.length : ∀ (t : Ty) (v : t.den) (cs : List Value) (ris : List RI), TRep F w ρp t v cs ris → cs.length = t.size
 | .vec t, xs, cs, ris, h => by obtain ⟨ri, rfl, rfl, ho⟩ := h; rfl
 | .bx t, v, cs, ris, h => by obtain ⟨ri, rs, p, ds, cells, el, rfl, rfl, _⟩ := h; rfl
 | .iter, v, cs, ris, h => by obtain ⟨ri, rfl, rfl, ho⟩ := h; rfl
 | .st t, v, cs, ris, h => TRep.length t v cs ris h
 | .pair a b, v, cs, ris, ⟨c1, c2, r1, r2, e1, e2, h1, h2⟩ => by
  subst e1; simp [Ty.size, TRep.length a _ _ _ h1, TRep.length b _ _ _ h2]
 | .int _, v, cs, ris, h => Rep.length _ _ _ h.2.2
 | .bool, v, cs, ris, h => Rep.length _ _ _ h.2.2
 | .str, v, cs, ris, h => Rep.length _ _ _ h.2.2
 | .unit, v, cs, ris, h => Rep.length _ _ _ h.2.2
 | .slice _, v, cs, ris, h => Rep.length _ _ _ h.2.2
 | .sln _, v, cs, ris, h => Rep.length _ _ _ h.2.2
 | .ptr _, v, cs, ris, h => Rep.length _ _ _ h.2.2
 | .rad _ _, v, cs, ris, h => Rep.length _ _ _ h.2.2
 | .ow _, v, cs, ris, h => Rep.length _ _ _ h.2.2
 | .osl _, v, cs, ris, h => Rep.length _ _ _ h.2.2
 | .oad _ _, v, cs, ris, h => Rep.length _ _ _ h.2.2
 | .clo _ _, v, cs, ris, h => Rep.length _ _ _ h.2.2
 | .tup _, v, cs, ris, h => Rep.length _ _ _ h.2.2
 | .nils, v, cs, ris, h => Rep.length _ _ _ h.2.2
 | .nilp, v, cs, ris, h => Rep.length _ _ _ h.2.2
 | .lost, v, cs, ris, h => Rep.length _ _ _ h.2.2
 | .any, v, cs, ris, h => Rep.length _ _ _ h.2.2
 | .nxt _ _, v, cs, ris, h => Rep.length _ _ _ h.2.2
 | .psl _, v, cs, ris, h => Rep.length _ _ _ h.2.2
 | .pdd _ _, v, cs, ris, h => Rep.length _ _ _ h.2.2
 | .pad _ _, v, cs, ris, h => Rep.length _ _ _ h.2.2
 | .mpv _, v, cs, ris, h => Rep.length _ _ _ h.2.2
 | .fmp _ _, v, cs, ris, h => Rep.length _ _ _ h.2.2
 | .mpc _ _, v, cs, ris, h => by obtain ⟨ri, rfl, rfl, ho⟩ := h; rfl
 | .mit _ _, v, cs, ris, h => by obtain ⟨ri, rfl, rfl, ho⟩ := h; rfl
def MO.has : MO → RK → Prop
 | .no, _ => False
 | .reg q _, k => k = .reg q
 | .po p h, k => ∃ u, h = some u ∧ k = .pl p u.1
 | .pool ps, k => ∃ p ∈ ps, ∃ i, k = .pl p i
structure OwnR (s : St) (ρ : RK → Option RI) (o : MO) (ri : RI) : Prop where
 whole : ∀ q, o = .reg q false → ρ q = some ri
 blk : ∀ b, ri.blk b → ∃ k c rk, o.has k ∧ s.cont k = some c ∧ ρ k = some rk ∧ rk.blk b
 live : ∀ q f, o = .reg q f → ∃ c, s.cont q = some c
def OwnRs (s : St) (ρ : RK → Option RI) : List MO → List RI → Prop
 | [], ris => ris = []
 | o :: os, ris => ∃ ri rs, ris = ri :: rs ∧ OwnR s ρ o ri ∧ OwnRs s ρ os rs
theorem OwnRs.append : ∀ {o1 o2 : List MO} {r1 r2 : List RI}, OwnRs s ρ o1 r1 → OwnRs s ρ o2 r2 → OwnRs s ρ (o1 ++ o2) (r1 ++ r2)
 | [], _, _, _, h1, h2 => by rw [show _ = [] from h1]; exact h2
 | _ :: _, _, _, _, ⟨ri, rs, e, h3, h4⟩, h2 => by subst e; exact ⟨ri, _, rfl, h3, OwnRs.append h4 h2⟩
theorem OwnRs.length : ∀ {o : List MO} {r : List RI}, OwnRs s ρ o r → o.length = r.length
 | [], _, h => by rw [show _ = [] from h]; rfl
 | _ :: _, _, ⟨ri, rs, e, h3, h4⟩ => by subst e; simp [OwnRs.length h4]
theorem OwnRs.get : ∀ {o : List MO} {r : List RI}, OwnRs s ρ o r → ∀ {i : Nat} {ri : RI}, r[i]? = some ri → ∃ x, o[i]? = some x ∧ OwnR s ρ x ri
 | [], _, h, i, ri, hi => by rw [show _ = [] from h] at hi; simp at hi
 | _ :: _, _, ⟨ri0, rs, e, h3, h4⟩, i, ri, hi => by
  subst e
  cases i with
  | zero => simp only [List.getElem?_cons_zero, Option.some.injEq] at hi; subst hi; exact ⟨_, rfl, h3⟩
  | succ i => obtain ⟨x, h5, h6⟩ := OwnRs.get h4 (i := i) (by simpa using hi); exact ⟨x, by simpa using h5, h6⟩
theorem own_whole {q : Nat} {c : Cont} {ri : RI} (hc : s.cont q = some c) (hr : ρ q = some ri) : OwnR s ρ (.reg q false) ri :=
 ⟨fun q' e => by cases e; exact hr, fun b hb => ⟨q, c, ri, rfl, hc, hr, hb⟩, fun q' f e => by cases e; exact ⟨c, hc⟩⟩
theorem own_none {o : MO} {ri : RI} (ho : ∀ q f, o ≠ .reg q f) (hA : ri.A = none) (hs : ri.sub = []) : OwnR s ρ o ri :=
 ⟨fun q e => absurd e (ho q false), fun b hb => (by obtain ⟨p, h, _⟩ := blk_nosub hs hb; rw [hA] at h; cases h), fun q f e => absurd e (ho q f)⟩
def cutRI (ri : RI) (v1 v2 : Nat) (A : Option Addr) (c : Nat) : RI := ⟨ri.A.map fun p => (p.1, p.2 + v1 * ri.sz), A, v2, c, ri.sz, []⟩
theorem cut_row {ri : RI} {ob : OB} (h2 : ORep F w ρ ri ob) {v1 v2 : Nat} {A : Option Addr} {c : Nat} (g1 : v2 ≤ c) (g2 : v1 + c ≤ ri.c) (g3 : v1 + v2 ≤ ri.n) (g4 : c = 0 ∨ ∃ p, ri.A = some p ∧ A = some (adr (p.1, p.2 + v1 * ri.sz))) :
  (Value.slice A v2 c) = (cutRI ri v1 v2 A c).val ∧ ORep F w ρ (cutRI ri v1 v2 A c) ⟨ob.t, (ob.xs.drop v1).take v2⟩ ∧ ∀ b, (cutRI ri v1 v2 A c).blk b ↔ ri.blk b := by
 have hsz := h2.sz
 have hn := h2.n
 have keyA : ∀ p, (ri.A.map fun p => (p.1, p.2 + v1 * ri.sz)) = some p → ∃ p0, ri.A = some p0 ∧ p = (p0.1, p0.2 + v1 * ri.sz) := fun p hA => by
  cases hp : ri.A with
  | none => rw [hp] at hA; cases hA
  | some p0 => rw [hp] at hA; cases hA; exact ⟨p0, rfl, rfl⟩
 unfold cutRI
 refine ⟨rfl, ⟨?_, hsz, g1, h2.pure, ?_, ?_, ?_, ?_, rfl⟩, fun b => ⟨fun hb => ?_, fun hb => ?_⟩⟩
 ·show v2 = ((ob.xs.drop v1).take v2).length
  simp only [List.length_take, List.length_drop]; omega
 ·intro hA
  simp only [Option.map_eq_none_iff] at hA ⊢
  have := h2.none hA
  omega
 ·simp only
  rcases g4 with g4 | ⟨p, hp, e⟩
  ·exact .inl g4
  ·right; rw [hp, e]; rfl
 ·intro p hA
  obtain ⟨p0, hp, rfl⟩ := keyA p hA
  obtain ⟨cells, el, b1, b2⟩ := h2.block p0 hp
  refine ⟨cells, el, b1, ?_⟩
  have : (v1 + c) * ri.sz ≤ ri.c * ri.sz := Nat.mul_le_mul_right _ g2
  rw [Nat.add_mul] at this
  simp only
  omega
 ·intro p hA i x hi
  obtain ⟨p0, hp, rfl⟩ := keyA p hA
  simp only [List.getElem?_take, List.getElem?_drop] at hi
  split at hi
  ·obtain ⟨ds, d1, d2⟩ := h2.cells p0 hp (v1 + i) x hi
   refine ⟨ds, ?_, d2⟩
   rwa [Nat.add_mul, ← Nat.add_assoc] at d1
  ·cases hi
 ·obtain ⟨p, hA, rfl⟩ := blk_nosub rfl hb
  obtain ⟨p0, hp, rfl⟩ := keyA p hA
  exact (show ri.blk p0.1 from RI.blkA hp)
 ·obtain ⟨p, hA, rfl⟩ := blk_nosub h2.sub hb
  exact .inl ⟨(p.1, p.2 + v1 * ri.sz), by simp [hA], rfl⟩
theorem osl_own (h : RelAt F0 M W0 F ρ s a w) {q : Nat} {v : Nat × Nat} {ob : OB} (hob : s.obj q = some ob) {cs : List Value} (hx : Rep F (mem w) ρ (.osl q) v cs) :
  ∃ ri : RI, cs = [ri.val] ∧ ORep F w ρ ri ⟨ob.t, (ob.xs.drop v.1).take v.2⟩ ∧ OwnR s ρ (.reg q true) ri := by
 obtain ⟨ri, h1, h2⟩ := h.obj q ob hob
 obtain ⟨ri', e4, A, c, e5, g1, g2, g3, g4, _⟩ := hx
 rw [h1] at e4; cases e4
 obtain ⟨k1, k2, k3⟩ := cut_row h2 g1 g2 g3 g4
 refine ⟨_, by rw [e5, k1], k2, fun q' e => (by cases e), fun b hb => ⟨q, _, ri, rfl, St.obj_cont.1 hob, h1, (k3 b).1 hb⟩, fun q' f e => by cases e; exact ⟨_, St.obj_cont.1 hob⟩⟩
theorem whole_back {ri : RI} {t : Ty} {ys xs : List t.den} {A : Option Addr} {c : Nat} {G : Nat → Prop} {ρ' : RK → Option RI} (ho : ORep F w ρ ri ⟨t, ys⟩) (hk : Kept M w w') (hc : ri.n ≤ c) (hn : ORep G w' ρ' (cutRI ri 0 ys.length A c) ⟨t, xs⟩) : ORep G w' ρ' ri ⟨t, xs⟩ := by
 have h1 : ri.n = ys.length := ho.n
 have h2 : ys.length = xs.length := hn.n
 refine ⟨h1.trans h2, ho.sz, ho.le, hn.pure, ho.none, ho.raw, fun p hA => ?_, fun p hA i x hi => ?_, ho.sub⟩
 ·obtain ⟨cells, el, g1, g2⟩ := ho.block p hA
  obtain ⟨cells', g3, g4⟩ := hk.len _ _ _ _ g1
  exact ⟨cells', el, g3, by rw [g4]; exact g2⟩
 ·have hlt : i < xs.length := pl_lt hi
  have hc0 : c ≠ 0 := by omega
  obtain ⟨ds, g1, g2⟩ := hn.cells (p.1, p.2 + 0 * ri.sz) (by simp [cutRI, hA]) i x hi
  exact ⟨ds, by simpa [cutRI] using g1, g2⟩
theorem nil_own {p : Nat} {q : PL} (hp : q.t.hold = true) : ORep F w ρ ⟨none, none, 0, 0, q.t.size, []⟩ ⟨q.t, []⟩ := ⟨rfl, rfl, Nat.le_refl _, hp, fun _ => rfl, .inl rfl, fun p hA => (by cases hA), fun p hA => (by cases hA), rfl⟩
def HAt (s : St) (ρ : RK → Option RI) (F : Nat → Prop) (w : World) (p : Nat) (q : PL) (v : (Ty.psl p).den) (ri : RI) : Prop :=
 (v = none ∧ ri = ⟨none, none, 0, 0, q.t.size, []⟩) ∨ ∃ i v1 v2 rk ys A c, v = some (i, v1, v2) ∧ q.l[i]? = some (some ys) ∧ ρ (.pl p i) = some rk ∧ ORep F w ρ rk ⟨q.t, ys⟩ ∧ v2 ≤ c ∧ v1 + c ≤ rk.c ∧ v1 + v2 ≤ rk.n ∧ rk.n ≤ v1 + c ∧ ri = cutRI rk v1 v2 A c
theorem psl_own (h : RelAt F0 M W0 F ρ s a w) {p : Nat} {q : PL} (hq : pol s.pls p = some q) {v : (Ty.psl p).den} (hk : hok q.l v = true) (hp : q.t.hold = true) {cs : List Value} (hx : Rep F (mem w) ρ (.psl p) v cs) :
  ∃ ri : RI, cs = [ri.val] ∧ ORep F w ρ ri ⟨q.t, hgetD q.l v⟩ ∧ OwnR s ρ (.po p v) ri ∧ HAt s ρ F w p q v ri := by
 rcases hx with ⟨rfl, rfl⟩ | ⟨i, u, rfl, ri, h1, A, c, rfl, q1, q2, q3, q4, q5⟩
 ·exact ⟨⟨none, none, 0, 0, q.t.size, []⟩, rfl, nil_own (p := p) hp, own_none (fun _ _ e => by cases e) rfl rfl, .inl ⟨rfl, rfl⟩⟩
 ·obtain ⟨v1, v2⟩ := u
  cases hl : q.l[i]? with
  | none => simp [hok, hget, hl] at hk
  | some o =>
   cases o with
   | none => simp [hok, hget, hl] at hk
   | some ys =>
    have hg : hgetD q.l (some (i, v1, v2)) = (ys.drop v1).take v2 := by simp [hgetD, hget, hl]
    obtain ⟨ri', h1', ho⟩ := h.obj (.pl p i) _ (obj_pl hq hl)
    rw [h1] at h1'; cases h1'
    obtain ⟨k1, k2, k3⟩ := cut_row ho q1 q2 q3 q4
    rw [hg]
    exact ⟨_, by rw [← k1], k2, ⟨fun q' e => (by cases e), fun b hb => ⟨.pl p i, _, ri, ⟨_, rfl, rfl⟩, St.obj_cont.1 (obj_pl hq hl), h1, (k3 b).1 hb⟩, fun q' f e => by cases e⟩, .inr ⟨i, v1, v2, ri, ys, A, c, rfl, hl, h1, ho, q1, q2, q3, q5, rfl⟩⟩
theorem cls_leaf {T : Ty} (he : ∀ x, cls s T x = (match rdV s T x with | some (v, fr, k) => if T.hold then some (v, [], fr, k) else none | none => none)) (ht : ∀ v cs ris, TRep F' w ρp T v cs ris = (ris = [] ∧ T.hold = true ∧ Rep F' (mem w) ρp T v cs))
  (h : RelAt F0 M W0 F ρ s a w) (hpl : ∀ p i x, ρ (.pl p i) = some x → ρp (.pl p i) = some x) (hF : ∀ b, F b → F' b) {x : TV} {v : T.den} {own : List MO} {fr : List RQ} {cs : List Value} (hc : cls s T x = some (v, own, fr, true)) (hx : Rep F (mem w) ρ x.t x.v cs)
  (hf : Reads s ρ F' fr) : ∃ ris, TRep F' w ρp T v cs ris ∧ OwnRs s ρ own ris := by
 rw [he] at hc
 split at hc
 ·rename_i u f k hr
  split at hc
  ·rename_i hp
   cases hc
   exact ⟨[], by rw [ht]; exact ⟨rfl, hp, rd_law h hpl hF T x hr hp hx hf⟩, rfl⟩
  ·cases hc
 ·cases hc
theorem cls_law (h : RelAt F0 M W0 F ρ s a w) (hpl : ∀ p i x, ρ (.pl p i) = some x → ρp (.pl p i) = some x) (hF : ∀ b, F b → F' b) : ∀ (T : Ty) (x : TV) {v : T.den} {own : List MO} {fr : List RQ} {cs : List Value}, cls s T x = some (v, own, fr, true) → Rep F (mem w) ρ x.t x.v cs →
  Reads s ρ F' fr → ∃ ris, TRep F' w ρp T v cs ris ∧ OwnRs s ρ own ris
 | .vec t, x, v, own, fr, cs, hc, hx, hf => by
  obtain ⟨xt, xv⟩ := x
  simp only [cls] at hc
  split at hc
  ·rename_i q u e
   cases e
   split at hc
   ·rename_i ob hob
    split at hc
    ·rename_i ht
     split at hc
     case isFalse => cases hc
     cases hc
     obtain ⟨obt, obx⟩ := ob
     cases ht
     obtain ⟨ri, h1, ho⟩ := h.obj q _ hob
     obtain ⟨ri', h2, e⟩ := hx
     rw [h1] at h2; cases h2
     subst e
     exact ⟨[ri], ⟨ri, rfl, rfl, ORep.hold0 hpl (ho.mono hF (fun _ _ h => h))⟩, ri, [], rfl, own_whole (St.obj_cont.1 hob) h1, rfl⟩
    ·cases hc
   ·cases hc
  ·rename_i q u e
   cases e
   split at hc
   ·rename_i ob hob
    split at hc
    ·rename_i ht
     split at hc
     case isFalse => cases hc
     cases hc
     obtain ⟨obt, obx⟩ := ob
     cases ht
     obtain ⟨ri, e, ho, hr⟩ := osl_own h hob hx
     subst e
     exact ⟨[ri], ⟨ri, rfl, rfl, ORep.hold0 hpl (ho.mono hF (fun _ _ h => h))⟩, ri, [], rfl, hr, rfl⟩
    ·cases hc
   ·cases hc
  ·rename_i p u e
   cases e
   split at hc
   ·rename_i q hq
    split at hc
    ·rename_i ht
     subst ht
     split at hc
     case isFalse => cases hc
     rename_i hp
     simp only [Option.some.injEq, Prod.mk.injEq] at hc
     obtain ⟨rfl, rfl, rfl, hk⟩ := hc
     obtain ⟨ri, e, ho, hr, _⟩ := psl_own h hq hk hp hx
     subst e
     exact ⟨[ri], ⟨ri, rfl, rfl, ORep.hold0 hpl (ho.mono hF (fun _ _ h => h))⟩, ri, [], rfl, hr, rfl⟩
    ·cases hc
   ·cases hc
  ·rename_i u e
   cases e
   split at hc
   ·rename_i hp
    cases hc
    cases hx
    exact ⟨[⟨none, none, 0, 0, t.size, []⟩], ⟨_, rfl, rfl, ⟨rfl, rfl, Nat.le_refl _, hp, fun _ => rfl, .inl rfl, fun p hA => (by cases hA), fun p hA => (by cases hA), rfl⟩⟩, _, [], rfl, own_none (fun _ _ e => by cases e) rfl rfl, rfl⟩
   ·cases hc
  ·cases hc
 | .iter, x, v, own, fr, cs, hc, hx, hf => by
  obtain ⟨xt, xv⟩ := x
  simp only [cls] at hc
  split at hc
  ·rename_i q u e
   cases e
   split at hc
   ·rename_i y hy
    cases hc
    obtain ⟨ri, h1, hb⟩ := h.cobj q _ (St.itc_cont.1 hy)
    obtain ⟨ri', p, h2, h3, e⟩ := hx
    rw [h1] at h2; cases h2
    subst e
    have hb : SRep w ri v.1 v.2 := hb
    exact ⟨[ri], ⟨ri, rfl, by rw [h3]; rfl, hb⟩, ri, [], rfl, own_whole (St.itc_cont.1 hy) h1, rfl⟩
   ·cases hc
  ·cases hc
 | .bx t, x, v, own, fr, cs, hc, hx, hf => by
  obtain ⟨xt, xv⟩ := x
  simp only [cls] at hc
  split at hc
  ·rename_i q u e
   cases e
   split at hc
   ·rename_i y hy
    split at hc
    ·rename_i v' l f k hrec
     cases hc
     obtain ⟨ri, h1, hb⟩ := h.box q y hy
     obtain ⟨ri', p, h2, h3, e⟩ := hx
     rw [h1] at h2; cases h2
     subst e
     obtain ⟨p', ds, cells, el, g1, g2, g3, g4, g5⟩ := hb.ex
     rw [h3] at g1; cases g1
     obtain ⟨rs, k1, k2⟩ := cls_law h hpl hF t y hrec g5 hf
     have l1 := TRep.length _ _ _ _ k1
     have l2 := Rep.length _ _ _ g5
     exact ⟨ri :: rs, ⟨ri, rs, p, ds, cells, el, rfl, rfl, h3, hb.bare, g2, by rw [← l1, l2]; exact g3, g4, k1⟩, ri, rs, rfl, own_whole (St.bx_cont.1 hy) h1, k2⟩
    ·cases hc
   ·cases hc
  ·cases hc
 | .st t, x, v, own, fr, cs, hc, hx, hf => by
  obtain ⟨xt, xv⟩ := x
  simp only [cls] at hc
  split at hc
  ·rename_i e; cases e
   exact cls_law h hpl hF t _ hc hx hf
  ·cases hc
 | .pair p q, x, v, own, fr, cs, hc, hx, hf => by
  obtain ⟨xt, xv⟩ := x
  simp only [cls] at hc
  split at hc
  ·rename_i e
   cases e
   split at hc
   ·rename_i h1 h2
    simp only [Option.some.injEq, Prod.mk.injEq, Bool.and_eq_true] at hc
    obtain ⟨rfl, rfl, rfl, rfl, rfl⟩ := hc
    obtain ⟨c1, c2, e, g1, g2⟩ := hx
    obtain ⟨r1, k1, k2⟩ := cls_law h hpl hF p _ h1 g1 hf.left
    obtain ⟨r2, k3, k4⟩ := cls_law h hpl hF q _ h2 g2 hf.right
    exact ⟨r1 ++ r2, ⟨c1, c2, r1, r2, e, rfl, k1, k3⟩, k2.append k4⟩
   ·cases hc
  ·cases hc
 | .int _, x, v, own, fr, cs, hc, hx, hf => cls_leaf (fun _ => rfl) (fun _ _ _ => rfl) h hpl hF hc hx hf
 | .bool, x, v, own, fr, cs, hc, hx, hf => cls_leaf (fun _ => rfl) (fun _ _ _ => rfl) h hpl hF hc hx hf
 | .str, x, v, own, fr, cs, hc, hx, hf => cls_leaf (fun _ => rfl) (fun _ _ _ => rfl) h hpl hF hc hx hf
 | .unit, x, v, own, fr, cs, hc, hx, hf => cls_leaf (fun _ => rfl) (fun _ _ _ => rfl) h hpl hF hc hx hf
 | .slice _, x, v, own, fr, cs, hc, hx, hf => cls_leaf (fun _ => rfl) (fun _ _ _ => rfl) h hpl hF hc hx hf
 | .sln _, x, v, own, fr, cs, hc, hx, hf => cls_leaf (fun _ => rfl) (fun _ _ _ => rfl) h hpl hF hc hx hf
 | .ptr _, x, v, own, fr, cs, hc, hx, hf => cls_leaf (fun _ => rfl) (fun _ _ _ => rfl) h hpl hF hc hx hf
 | .rad _ _, x, v, own, fr, cs, hc, hx, hf => cls_leaf (fun _ => rfl) (fun _ _ _ => rfl) h hpl hF hc hx hf
 | .ow _, x, v, own, fr, cs, hc, hx, hf => cls_leaf (fun _ => rfl) (fun _ _ _ => rfl) h hpl hF hc hx hf
 | .osl _, x, v, own, fr, cs, hc, hx, hf => cls_leaf (fun _ => rfl) (fun _ _ _ => rfl) h hpl hF hc hx hf
 | .oad _ _, x, v, own, fr, cs, hc, hx, hf => cls_leaf (fun _ => rfl) (fun _ _ _ => rfl) h hpl hF hc hx hf
 | .clo _ _, x, v, own, fr, cs, hc, hx, hf => cls_leaf (fun _ => rfl) (fun _ _ _ => rfl) h hpl hF hc hx hf
 | .tup _, x, v, own, fr, cs, hc, hx, hf => cls_leaf (fun _ => rfl) (fun _ _ _ => rfl) h hpl hF hc hx hf
 | .nils, x, v, own, fr, cs, hc, hx, hf => cls_leaf (fun _ => rfl) (fun _ _ _ => rfl) h hpl hF hc hx hf
 | .nilp, x, v, own, fr, cs, hc, hx, hf => cls_leaf (fun _ => rfl) (fun _ _ _ => rfl) h hpl hF hc hx hf
 | .lost, x, v, own, fr, cs, hc, hx, hf => cls_leaf (fun _ => rfl) (fun _ _ _ => rfl) h hpl hF hc hx hf
 | .any, x, v, own, fr, cs, hc, hx, hf => cls_leaf (fun _ => rfl) (fun _ _ _ => rfl) h hpl hF hc hx hf
 | .nxt _ _, x, v, own, fr, cs, hc, hx, hf => cls_leaf (fun _ => rfl) (fun _ _ _ => rfl) h hpl hF hc hx hf
 | .psl _, x, v, own, fr, cs, hc, hx, hf => cls_leaf (fun _ => rfl) (fun _ _ _ => rfl) h hpl hF hc hx hf
 | .pdd _ _, x, v, own, fr, cs, hc, hx, hf => cls_leaf (fun _ => rfl) (fun _ _ _ => rfl) h hpl hF hc hx hf
 | .pad _ _, x, v, own, fr, cs, hc, hx, hf => cls_leaf (fun _ => rfl) (fun _ _ _ => rfl) h hpl hF hc hx hf
 | .mpv _, x, v, own, fr, cs, hc, hx, hf => cls_leaf (fun _ => rfl) (fun _ _ _ => rfl) h hpl hF hc hx hf
 | .fmp _ _, x, v, own, fr, cs, hc, hx, hf => cls_leaf (fun _ => rfl) (fun _ _ _ => rfl) h hpl hF hc hx hf
 | .mpc k t, x, v, own, fr, cs, hc, hx, hf => by
  obtain ⟨xt, xv⟩ := x
  simp only [cls] at hc
  split at hc
  ·rename_i q u e
   cases e
   split at hc
   ·rename_i k' t' l hl
    split at hc
    ·rename_i ht
     subst ht
     split at hc
     ·rename_i hk
      subst hk
      split at hc
      ·rename_i hp
       cases hc
       obtain ⟨ri, h1, ho⟩ := h.cobj q _ hl
       obtain ⟨ri', p, h2, h3, rfl⟩ := hx
       rw [h1] at h2; cases h2
       exact ⟨[ri], ⟨ri, rfl, by rw [h3]; rfl, MRep.reps ho fun v cs hv => Rep.hold hpl _ v cs hp (Rep.mono hF (fun _ _ _ _ h => h) (fun _ _ h => h) _ v cs hv)⟩, ri, [], rfl, own_whole hl h1, rfl⟩
      ·cases hc
     ·cases hc
    ·cases hc
   ·cases hc
  ·cases hc
 | .mit k t, x, v, own, fr, cs, hc, hx, hf => by
  obtain ⟨xt, xv⟩ := x
  simp only [cls] at hc
  split at hc
  ·rename_i q u e
   cases e
   split at hc
   ·rename_i k' t' l c hl
    split at hc
    ·rename_i ht
     subst ht
     split at hc
     ·rename_i hk
      subst hk
      split at hc
      ·rename_i hp
       cases hc
       obtain ⟨ri, h1, ho⟩ := h.cobj q _ hl
       obtain ⟨ri', p, h2, h3, rfl⟩ := hx
       rw [h1] at h2; cases h2
       exact ⟨[ri], ⟨ri, rfl, by rw [h3]; rfl, IRep.reps ho fun v cs hv => Rep.hold hpl _ v cs hp (Rep.mono hF (fun _ _ _ _ h => h) (fun _ _ h => h) _ v cs hv)⟩, ri, [], rfl, own_whole hl h1, rfl⟩
      ·cases hc
     ·cases hc
    ·cases hc
   ·cases hc
  ·cases hc
structure ClsOk (own : List MO) (T : Ty) (x : TV) : Prop where
 cnt : own.length = cnt T
 tup : ∀ u, x.t ≠ .tup u
 st : isSt x.t = isSt T
theorem coe_tup {u : Ty} {v : (Ty.tup u).den} {T : Ty} {z : T.den} (h : coe (.tup u) v T = some z) : ∃ u', T = .tup u' := by
 cases T <;> first
  | exact ⟨_, rfl⟩
  | (simp [coe] at h)
theorem rd_facts : ∀ (T : Ty) (x : TV) {v : T.den} {fr : List RQ} {k : Bool}, rdV s T x = some (v, fr, k) → T.hold = true → (∀ u, x.t ≠ .tup u) ∧ isSt x.t = isSt T := by
 intro T x v fr k hr hp
 have leaf : ∀ {z : T.den}, coe x.t x.v T = some z → (∀ u, x.t ≠ .tup u) ∧ isSt x.t = isSt T := fun {z} hc => by
  refine ⟨fun u e => ?_, (coe_st hc).symm⟩
  obtain ⟨xt, xv⟩ := x
  simp only at e
  subst e
  obtain ⟨u', e⟩ := coe_tup hc
  subst e
  cases hp
 cases T
 case st t =>
  simp only [rdV] at hr
  split at hr
  ·exact ⟨fun u e => (by cases e), rfl⟩
  ·cases hr
 case pair a b =>
  simp only [rdV] at hr
  split at hr
  ·exact ⟨fun u e => (by cases e), rfl⟩
  ·cases hr
 case slice t =>
  simp only [rdV] at hr
  split at hr
  ·rename_i hc; exact leaf hc
  ·split at hr
   ·exact ⟨fun u e => (by cases e), rfl⟩
   ·exact ⟨fun u e => (by cases e), rfl⟩
   ·exact ⟨fun u e => (by cases e), rfl⟩
   ·exact ⟨fun u e => (by cases e), rfl⟩
   ·cases hr
 case rad t o =>
  simp only [rdV] at hr
  split at hr
  ·rename_i hc; exact leaf hc
  ·split at hr
   ·exact ⟨fun u e => (by cases e), rfl⟩
   ·cases hr
 case ptr t =>
  simp only [rdV] at hr
  split at hr
  ·rename_i hc; exact leaf hc
  ·split at hr
   ·exact ⟨fun u e => (by cases e), rfl⟩
   ·cases hr
 case clo f t =>
  simp only [rdV] at hr
  split at hr
  ·rename_i hc; exact leaf hc
  ·split at hr
   ·exact ⟨fun u e => (by cases e), rfl⟩
   ·cases hr
 case fmp k t =>
  simp only [rdV] at hr
  split at hr
  ·rename_i hc; exact leaf hc
  ·split at hr
   ·exact ⟨fun u e => (by cases e), rfl⟩
   ·cases hr
 case lost =>
  simp only [rdV] at hr
  split at hr
  ·rename_i hc
   simp only [Bool.and_eq_true, beq_iff_eq, Bool.not_eq_true'] at hc
   refine ⟨fun u e => ?_, hc.2⟩
   rw [e] at hc
   exact absurd hc.1.2 (by simp [Ty.cell])
  ·cases hr
 all_goals
  simp only [rdV] at hr
  first
   | (
     cases hc : coe x.t x.v _ with
     | none => rw [hc] at hr; cases hr
     | some u => exact leaf hc)
theorem cls_facts_leaf {T : Ty} (he : ∀ x, cls s T x = (match rdV s T x with | some (v, fr, k) => if T.hold then some (v, [], fr, k) else none | none => none)) (hn : Go.Vu.cnt T = 0) {x : TV} {v : T.den} {own : List MO} {fr : List RQ} {k : Bool} (hc : cls s T x = some (v, own, fr, k)) : ClsOk own T x := by
 rw [he] at hc
 split at hc
 ·rename_i u f k' hr
  split at hc
  ·rename_i hp
   cases hc
   obtain ⟨h1, h2⟩ := rd_facts T x hr hp
   exact ⟨hn.symm, h1, h2⟩
  ·cases hc
 ·cases hc
theorem cls_facts : ∀ (T : Ty) (x : TV) {v : T.den} {own : List MO} {fr : List RQ} {k : Bool}, cls s T x = some (v, own, fr, k) → ClsOk own T x
 | .vec t, x, v, own, fr, k, hc => by
  simp only [cls] at hc
  split at hc
  ·split at hc
   ·split at hc
    ·split at hc
     ·cases hc; exact ⟨rfl, fun u e => (by cases e), rfl⟩
     ·cases hc
    ·cases hc
   ·cases hc
  ·split at hc
   ·split at hc
    ·split at hc
     ·cases hc; exact ⟨rfl, fun u e => (by cases e), rfl⟩
     ·cases hc
    ·cases hc
   ·cases hc
  ·split at hc
   ·split at hc
    ·split at hc
     ·cases hc; exact ⟨rfl, fun u e => (by cases e), rfl⟩
     ·cases hc
    ·cases hc
   ·cases hc
  ·split at hc
   ·cases hc; exact ⟨rfl, fun u e => (by cases e), rfl⟩
   ·cases hc
  ·cases hc
 | .iter, x, v, own, fr, k, hc => by
  simp only [cls] at hc
  split at hc
  ·split at hc
   ·cases hc; exact ⟨rfl, fun u e => (by cases e), rfl⟩
   ·cases hc
  ·cases hc
 | .bx t, x, v, own, fr, k, hc => by
  simp only [cls] at hc
  split at hc
  ·split at hc
   ·split at hc
    ·rename_i hrec
     cases hc
     have ih := cls_facts t _ hrec
     exact ⟨by simp [Go.Vu.cnt, ih.cnt], fun u e => (by cases e), rfl⟩
    ·cases hc
   ·cases hc
  ·cases hc
 | .st t, x, v, own, fr, k, hc => by
  simp only [cls] at hc
  split at hc
  ·have ih := cls_facts t _ hc
   exact ⟨ih.cnt, fun u e => (by cases e), rfl⟩
  ·cases hc
 | .pair p q, x, v, own, fr, k, hc => by
  simp only [cls] at hc
  split at hc
  ·split at hc
   ·rename_i h1 h2
    cases hc
    have i1 := cls_facts p _ h1
    have i2 := cls_facts q _ h2
    exact ⟨by simp [Go.Vu.cnt, i1.cnt, i2.cnt], fun u e => (by cases e), rfl⟩
   ·cases hc
  ·cases hc
 | .int _, x, v, own, fr, k, hc => cls_facts_leaf (fun _ => rfl) rfl hc
 | .bool, x, v, own, fr, k, hc => cls_facts_leaf (fun _ => rfl) rfl hc
 | .str, x, v, own, fr, k, hc => cls_facts_leaf (fun _ => rfl) rfl hc
 | .unit, x, v, own, fr, k, hc => cls_facts_leaf (fun _ => rfl) rfl hc
 | .slice _, x, v, own, fr, k, hc => cls_facts_leaf (fun _ => rfl) rfl hc
 | .sln _, x, v, own, fr, k, hc => cls_facts_leaf (fun _ => rfl) rfl hc
 | .ptr _, x, v, own, fr, k, hc => cls_facts_leaf (fun _ => rfl) rfl hc
 | .rad _ _, x, v, own, fr, k, hc => cls_facts_leaf (fun _ => rfl) rfl hc
 | .ow _, x, v, own, fr, k, hc => cls_facts_leaf (fun _ => rfl) rfl hc
 | .osl _, x, v, own, fr, k, hc => cls_facts_leaf (fun _ => rfl) rfl hc
 | .oad _ _, x, v, own, fr, k, hc => cls_facts_leaf (fun _ => rfl) rfl hc
 | .clo _ _, x, v, own, fr, k, hc => cls_facts_leaf (fun _ => rfl) rfl hc
 | .tup _, x, v, own, fr, k, hc => cls_facts_leaf (fun _ => rfl) rfl hc
 | .nils, x, v, own, fr, k, hc => cls_facts_leaf (fun _ => rfl) rfl hc
 | .nilp, x, v, own, fr, k, hc => cls_facts_leaf (fun _ => rfl) rfl hc
 | .lost, x, v, own, fr, k, hc => cls_facts_leaf (fun _ => rfl) rfl hc
 | .any, x, v, own, fr, k, hc => cls_facts_leaf (fun _ => rfl) rfl hc
 | .nxt _ _, x, v, own, fr, k, hc => cls_facts_leaf (fun _ => rfl) rfl hc
 | .psl _, x, v, own, fr, k, hc => cls_facts_leaf (fun _ => rfl) rfl hc
 | .pdd _ _, x, v, own, fr, k, hc => cls_facts_leaf (fun _ => rfl) rfl hc
 | .pad _ _, x, v, own, fr, k, hc => cls_facts_leaf (fun _ => rfl) rfl hc
 | .mpv _, x, v, own, fr, k, hc => cls_facts_leaf (fun _ => rfl) rfl hc
 | .fmp _ _, x, v, own, fr, k, hc => cls_facts_leaf (fun _ => rfl) rfl hc
 | .mpc _ _, x, v, own, fr, k, hc => by
  simp only [cls] at hc
  split at hc
  ·split at hc
   ·split at hc
    ·split at hc
     ·split at hc
      ·cases hc; exact ⟨rfl, fun u e => (by cases e), rfl⟩
      ·cases hc
     ·cases hc
    ·cases hc
   ·cases hc
  ·cases hc
 | .mit _ _, x, v, own, fr, k, hc => by
  simp only [cls] at hc
  split at hc
  ·split at hc
   ·split at hc
    ·split at hc
     ·split at hc
      ·cases hc; exact ⟨rfl, fun u e => (by cases e), rfl⟩
      ·cases hc
     ·cases hc
    ·cases hc
   ·cases hc
  ·cases hc
theorem cls_V (h : RelAt F0 M W0 F ρ s a w) (hpl : ∀ p i x, ρ (.pl p i) = some x → ρp (.pl p i) = some x) (hF : ∀ b, F b → F' b) {T : Ty} {x : TV} {v : T.den} {own : List MO} {fr : List RQ} {val : Value} (hc : cls s T x = some (v, own, fr, true)) (ha : isAny x.t = false) (hx : RepV F (mem w) ρ x.t x.v val)
  (hf : Reads s ρ F' fr) : ∃ ris, TRepV F' w ρp T v val ris ∧ OwnRs s ρ own ris := by
 have hk := cls_facts T x hc
 have h1 := RepV1.of hx ha hk.tup
 unfold RepV1 at h1
 unfold TRepV
 rw [hk.st] at h1
 split at h1
 ·rename_i hs
  obtain ⟨cs, e, h1⟩ := h1
  obtain ⟨ris, h2, h3⟩ := cls_law h hpl hF T x hc h1 hf
  exact ⟨ris, by rw [if_pos hs]; exact ⟨cs, e, h2⟩, h3⟩
 ·rename_i hs
  obtain ⟨ris, h2, h3⟩ := cls_law h hpl hF T x hc h1.2 hf
  exact ⟨ris, by rw [if_neg hs]; exact ⟨h1.1, h2⟩, h3⟩
theorem rd_V (h : RelAt F0 M W0 F ρ s a w) (hpl : ∀ p i x, ρ (.pl p i) = some x → ρp (.pl p i) = some x) (hF : ∀ b, F b → F' b) {T : Ty} {x : TV} {v : T.den} {fr : List RQ} {val : Value} (hc : rdV s T x = some (v, fr, true)) (hp : T.hold = true) (ha : isAny x.t = false) (hx : RepV F (mem w) ρ x.t x.v val)
  (hf : Reads s ρ F' fr) : RepV1 F' (mem w) ρp T v val := by
 obtain ⟨g1, g2⟩ := rd_facts T x hc hp
 have h1 := RepV1.of hx ha g1
 unfold RepV1 at *
 rw [g2] at h1
 split at h1
 ·rename_i hs
  obtain ⟨cs, e, h1⟩ := h1
  rw [if_pos hs]
  exact ⟨cs, e, rd_law h hpl hF T x hc hp h1 hf⟩
 ·rename_i hs
  rw [if_neg hs]
  exact ⟨h1.1, rd_law h hpl hF T x hc hp h1.2 hf⟩
inductive MutAt (s : St) (ρ : RK → Option RI) (F : Nat → Prop) (w : World) (mo : List MO) : (k : Option NK) → MUp k → RI → Prop
 | reg (T : Ty) (q : Nat) (r : RI) (hr : ρ q = some r) (hm : q ∈ moRegs mo) (hl : ∃ c, s.cont q = some c) (hT : (∃ t, T = .vec t) ∨ ∃ t, T = .bx t) : MutAt s ρ F w mo (some (.cl T)) ⟨some (.cl T), q, fun v => v⟩ r
 | po (p : Nat) (q : PL) (v : (Ty.psl p).den) (r : RI) (hq : pol s.pls p = some q) (hm : MO.po p v ∈ mo) (ha : HAt s ρ F w p q v r) (hw : hall q.l v = true) : MutAt s ρ F w mo (some (.cl (.vec q.t))) ⟨some (.pl q.t), p, fun xs => hset q.l v (some xs)⟩ r
theorem MutAt.more {mo mo' : List MO} (hs : ∀ m ∈ mo, m ∈ mo') {k : Option NK} {m : MUp k} {r : RI} (h : MutAt s ρ F w mo k m r) : MutAt s ρ F w mo' k m r := by
 cases h with
 | reg T q r hr hm hl hT =>
  refine .reg T q r hr ?_ hl hT
  simp only [moRegs, List.mem_filterMap] at hm ⊢
  obtain ⟨x, h1, h2⟩ := hm
  exact ⟨x, hs x h1, h2⟩
 | po p q v r hq hm ha hw => exact .po p q v r hq (hs _ hm) ha hw
theorem mut_root (h : RelAt F0 M W0 F ρ s a w) (hpl : ∀ p i x, ρ (.pl p i) = some x → ρp (.pl p i) = some x) (hF : ∀ b, F b → F' b) {T : Ty} {x : TV} {v : T.den} {own : List MO} {fr : List RQ} {ps : List PM} {xs : List TV} {m : MUp (some (.cl T))} (hc : cls s T x = some (v, own, fr, true)) (hw : wholeB s x = true)
  (hm : mutUp s (.mu T :: ps) (x :: xs) = some m) {val : Value} (ha : isAny x.t = false) (hx : RepV F (mem w) ρ x.t x.v val) (hf : Reads s ρ F' fr) :
  ∃ ris r, TRepV F' w ρp T v val ris ∧ OwnRs s ρ own ris ∧ ris.head? = some r ∧ MutAt s ρ F w own (some (.cl T)) m r := by
 obtain ⟨xt, xv⟩ := x
 cases T <;> simp only [mutUp, reduceCtorEq] at hm
 case vec t =>
  split at hm
  ·rename_i q' u e
   cases e
   cases hm
   obtain ⟨ris, g1, g2⟩ := cls_V h hpl hF hc ha hx hf
   simp only [cls] at hc
   split at hc
   ·rename_i ob hob
    split at hc
    ·split at hc
     ·cases hc
      obtain ⟨ri, rs, e, h1, h2⟩ := g2
      subst e
      exact ⟨ri :: rs, ri, g1, ⟨ri, rs, rfl, h1, h2⟩, rfl, .reg (.vec t) q' ri (h1.whole _ rfl) (by simp [moRegs, MO.rg]) ⟨_, St.obj_cont.1 hob⟩ (.inl ⟨t, rfl⟩)⟩
     ·cases hc
    ·cases hc
   ·cases hc
  ·rename_i p u e
   cases e
   split at hm
   ·rename_i q hq
    split at hm
    ·rename_i ht
     subst ht
     cases hm
     simp only [cls, hq] at hc
     split at hc
     ·split at hc
      ·rename_i hp
       simp only [Option.some.injEq, Prod.mk.injEq] at hc
       obtain ⟨rfl, rfl, rfl, hk⟩ := hc
       have hx1 := RepV1.of hx rfl (by intro u e; cases e)
       unfold RepV1 at hx1
       rw [if_neg (by simp [isSt])] at hx1
       obtain ⟨ri, e, ho, hr, hat⟩ := psl_own h hq hk hp hx1.2
       have e : val = ri.val := by simpa using e
       subst e
       refine ⟨[ri], ri, ?_, ⟨ri, [], rfl, hr, rfl⟩, rfl, .po p q u ri hq (by simp) hat (by simpa [wholeB, hq] using hw)⟩
       unfold TRepV
       rw [if_neg (by simp [isSt])]
       exact ⟨hx1.1, ri, rfl, rfl, ORep.hold0 hpl (ho.mono hF (fun _ _ h => h))⟩
      ·cases hc
     ·rename_i hne; exact absurd trivial hne
    ·cases hm
   ·cases hm
  ·cases hm
 case bx t =>
  split at hm
  ·rename_i q' u e
   cases e
   cases hm
   obtain ⟨ris, g1, g2⟩ := cls_V h hpl hF hc ha hx hf
   simp only [cls] at hc
   split at hc
   ·rename_i y hy
    split at hc
    ·cases hc
     obtain ⟨ri, rs, e, h1, h2⟩ := g2
     subst e
     exact ⟨ri :: rs, ri, g1, ⟨ri, rs, rfl, h1, h2⟩, rfl, .reg (.bx t) q' ri (h1.whole _ rfl) (by simp [moRegs, MO.rg]) ⟨_, St.bx_cont.1 hy⟩ (.inr ⟨t, rfl⟩)⟩
    ·cases hc
   ·cases hc
  ·cases hm
end Go.Vu
