/- Value semantics, part 19a: what comes back from a call. -/
import Derived.Test.YtaeobljnmfbdmaaVuLaw13
set_option linter.unusedVariables false
namespace Go.Vu
open Go
variable {P : Program} {tb : Tab} {R : Type} {F0 : Bs} {M F F' : Nat → Prop} {W0 w w' : World} {ρ ρ' ρp : RK → Option RI} {s : St} {a : Act} {m : Nat → Nat → Option Value} {id : Nat}
theorem MRep.maps {ri : RI} {k : IntKind} {t : Ty} {l : List (Int × t.den)} (h : MRep F w ρ ri k t l) {f : t.den → t.den} (hr : ∀ v cs, Rep F (mem w) ρ t v cs → Rep F (mem w) ρ' t (f v) cs) : MRep F w ρ' ri k t (l.map fun p => (p.1, f p.2)) :=
 ⟨h.bare, h.hold, by
  obtain ⟨b, es, clock, h1, h2, h3, h4⟩ := h.ex
  exact ⟨b, es, clock, h1, h2, h3.maps rfl fun p _ => hr p.2, h4⟩⟩
theorem IRep.maps {ri : RI} {k : IntKind} {t : Ty} {l : List (Int × t.den)} {c : Option (Int × t.den)} (h : IRep F w ρ ri k t l c) {f : t.den → t.den} (hr : ∀ v cs, Rep F (mem w) ρ t v cs → Rep F (mem w) ρ' t (f v) cs) : IRep F w ρ' ri k t (l.map fun p => (p.1, f p.2)) (c.map fun p => (p.1, f p.2)) :=
 ⟨h.one, h.hold, by
  obtain ⟨bi, bm, es, clock, seen, les, h1, h2, h3, h4, h5, h6, h7, h8, h9⟩ := h.ex
  refine ⟨bi, bm, es, clock, seen, les, h1, h2, h3, h4, h5, h6, h7, h8.maps rfl fun p _ => hr p.2, fun p hp => ?_⟩
  cases c with
  | none => cases hp
  | some q =>
   cases hp
   obtain ⟨e, g1, g2, g3, ds, g4, g5⟩ := h9 q rfl
   exact ⟨e, g1, g2, g3, ds, g4, hr _ _ g5⟩⟩
theorem TRep.to {G G' : Nat → Prop} : ∀ (t : Ty) (v : t.den) (cs : List Value) (ris : List RI), ((∀ b, G b → G' b) ∨ t.flatT = true) → TRep G w ρ t v cs ris → TRep G' w ρ t v cs ris
 | .vec t, xs, cs, ris, hG, ⟨ri, e1, e2, ho⟩ => ⟨ri, e1, e2, by
   rcases hG with hG | hG
   ·exact ho.mono hG (fun _ _ h => h)
   ·exact ORep.flat0 hG ho⟩
 | .iter, v, cs, ris, hG, h => h
 | .mpc k t, v, cs, ris, hG, ⟨ri, e1, e2, ho⟩ => ⟨ri, e1, e2, ho.reps fun v cs hv => hG.elim (fun hG => Rep.mono hG (fun _ _ _ _ h => h) (fun _ _ h => h) t v cs hv) (fun hf => Rep.flat t v cs hf hv)⟩
 | .mit k t, v, cs, ris, hG, ⟨ri, e1, e2, ho⟩ => ⟨ri, e1, e2, ho.reps fun v cs hv => hG.elim (fun hG => Rep.mono hG (fun _ _ _ _ h => h) (fun _ _ h => h) t v cs hv) (fun hf => Rep.flat t v cs hf hv)⟩
 | .bx t, v, cs, ris, hG, ⟨ri, rs, p, ds, cells, el, e1, e2, h1, h2, h3, h4, h5, h6⟩ => ⟨ri, rs, p, ds, cells, el, e1, e2, h1, h2, h3, h4, h5, TRep.to t v ds rs hG h6⟩
 | .st t, v, cs, ris, hG, h => TRep.to t v cs ris hG h
 | .pair a b, v, cs, ris, hG, ⟨c1, c2, r1, r2, e1, e2, h1, h2⟩ => ⟨c1, c2, r1, r2, e1, e2, TRep.to a _ _ _ (hG.imp id fun h => by simp only [Ty.flatT, Bool.and_eq_true] at h; exact h.1) h1, TRep.to b _ _ _ (hG.imp id fun h => by simp only [Ty.flatT, Bool.and_eq_true] at h; exact h.2) h2⟩
 | .int _, v, cs, ris, hG, ⟨e, hp, h⟩ => ⟨e, hp, h⟩
 | .bool, v, cs, ris, hG, ⟨e, hp, h⟩ => ⟨e, hp, h⟩
 | .str, v, cs, ris, hG, ⟨e, hp, h⟩ => ⟨e, hp, h⟩
 | .unit, v, cs, ris, hG, ⟨e, hp, h⟩ => ⟨e, hp, h⟩
 | .slice _, v, cs, ris, hG, ⟨e, hp, h⟩ => ⟨e, hp, hG.elim (fun hG => Rep.mono hG (fun _ _ _ _ h => h) (fun _ _ h => h) _ _ _ h) (fun hf => by cases hf)⟩
 | .sln _, v, cs, ris, hG, ⟨e, hp, h⟩ => ⟨e, hp, hG.elim (fun hG => Rep.mono hG (fun _ _ _ _ h => h) (fun _ _ h => h) _ _ _ h) (fun hf => by cases hf)⟩
 | .ptr _, v, cs, ris, hG, ⟨e, hp, h⟩ => ⟨e, hp, hG.elim (fun hG => Rep.mono hG (fun _ _ _ _ h => h) (fun _ _ h => h) _ _ _ h) (fun hf => by cases hf)⟩
 | .rad _ _, v, cs, ris, hG, ⟨e, hp, h⟩ => ⟨e, hp, hG.elim (fun hG => Rep.mono hG (fun _ _ _ _ h => h) (fun _ _ h => h) _ _ _ h) (fun hf => by cases hf)⟩
 | .ow _, v, cs, ris, hG, ⟨e, hp, h⟩ => by cases hp
 | .osl _, v, cs, ris, hG, ⟨e, hp, h⟩ => by cases hp
 | .oad _ _, v, cs, ris, hG, ⟨e, hp, h⟩ => by cases hp
 | .clo _ _, v, cs, ris, hG, ⟨e, hp, h⟩ => ⟨e, hp, hG.elim (fun hG => Rep.mono hG (fun _ _ _ _ h => h) (fun _ _ h => h) _ _ _ h) (fun hf => by cases hf)⟩
 | .tup _, v, cs, ris, hG, ⟨e, hp, h⟩ => by cases hp
 | .nils, v, cs, ris, hG, ⟨e, hp, h⟩ => ⟨e, hp, h⟩
 | .nilp, v, cs, ris, hG, ⟨e, hp, h⟩ => ⟨e, hp, h⟩
 | .lost, v, cs, ris, hG, ⟨e, hp, h⟩ => ⟨e, hp, h⟩
 | .any, v, cs, ris, hG, ⟨e, hp, h⟩ => by cases hp
 | .nxt _ _, v, cs, ris, hG, ⟨e, hp, h⟩ => by cases hp
 | .psl _, v, cs, ris, hG, ⟨e, hp, h⟩ => ⟨e, hp, h⟩
 | .pdd _ _, v, cs, ris, hG, ⟨e, hp, h⟩ => by cases hp
 | .pad _ _, v, cs, ris, hG, ⟨e, hp, h⟩ => by cases hp
 | .mpv _, v, cs, ris, hG, ⟨e, hp, h⟩ => by cases hp
 | .fmp _ _, v, cs, ris, hG, ⟨e, hp, h⟩ => ⟨e, hp, hG.elim (fun hG => Rep.mono hG (fun _ _ _ _ h => h) (fun _ _ h => h) _ _ _ h) (fun hf => by cases hf)⟩
theorem TRepV.to {G G' : Nat → Prop} {t : Ty} {v : t.den} {x : Value} {ris : List RI} (hG : (∀ b, G b → G' b) ∨ t.flatT = true) (h : TRepV G w ρ t v x ris) : TRepV G' w ρ t v x ris := by
 unfold TRepV at *
 split at h
 ·rename_i hs; rw [if_pos hs]; obtain ⟨cs, e, h⟩ := h; exact ⟨cs, e, TRep.to _ _ _ _ hG h⟩
 ·rename_i hs; rw [if_neg hs]; exact ⟨h.1, TRep.to _ _ _ _ hG h.2⟩
theorem V1_to {G G' : Nat → Prop} {t : Ty} {v : t.den} {x : Value} (hG : (∀ b, G b → G' b) ∨ t.flat = true) (h : RepV1 G (mem w) ρ t v x) : RepV1 G' (mem w) ρ t v x := by
 rcases hG with hG | hG
 ·exact RepV1.mono hG (fun _ _ _ _ h => h) (fun _ _ h => h) _ _ _ h
 ·unfold RepV1 at *
  split at h
  ·rename_i hs; rw [if_pos hs]; obtain ⟨cs, e, h⟩ := h; exact ⟨cs, e, Rep.flat _ _ _ hG h⟩
  ·rename_i hs; rw [if_neg hs]; exact ⟨h.1, Rep.flat _ _ _ hG h.2⟩
theorem pCont_ty : ∀ {ps : List (Nat × Ty)} {v : PlDen ps} {p i : Nat} {c : Cont}, pCont ps v p i = some c → ∃ t xs, c = .arr ⟨t, xs⟩ ∧ (p, t) ∈ ps
 | [], v, p, i, c, h => by cases h
 | (k, t) :: ps, v, p, i, c, h => by
  simp only [pCont] at h
  cases hb : Nat.beq k p with
  | true =>
   rw [hb] at h
   have e := Nat.eq_of_beq_eq_true hb
   subst e
   simp only [cond_true, PL.cont] at h
   split at h
   ·cases h; exact ⟨t, _, rfl, by simp⟩
   ·cases h
  | false =>
   rw [hb] at h
   obtain ⟨t', xs, e, hm⟩ := pCont_ty (ps := ps) h
   exact ⟨t', xs, e, by simp [hm]⟩
theorem PRep.to {G G' : Nat → Prop} {ps : List (Nat × Ty)} {v : PlDen ps} {rp : RI} (hG : (∀ b, G b → G' b) ∨ (ps.all fun p => p.2.flat) = true) (h : PRep G w ρ ps v rp) : PRep G' w ρ ps v rp := by
 refine ⟨h.A, fun p i c hc => ?_, h.sep, h.sub, h.fresh⟩
 obtain ⟨ri, h1, h2, h3⟩ := h.obj p i c hc
 obtain ⟨t, xs, rfl, hm⟩ := pCont_ty hc
 refine ⟨ri, h1, ?_, h3⟩
 rcases hG with hG | hG
 ·exact ORep.mono h2 hG (fun _ _ h => h)
 ·exact ORep.flat0 (List.all_eq_true.1 hG _ hm) h2
theorem Res1_to {G G' : Nat → Prop} : ∀ {r : RM} {v : r.den} {x : Value} {ris : List RI}, ((∀ b, G b → G' b) ∨ r.flat = true) → ResRep1 G w ρ r v x ris → ResRep1 G' w ρ r v x ris
 | .val t, v, x, ris, hG, ⟨e, hp, h⟩ => ⟨e, hp, V1_to hG h⟩
 | .own t, v, x, ris, hG, h => TRepV.to (t := t) hG h
 | .ownp ps t, v, x, ris, hG, ⟨ρr, r1, rp, h1, h2, h3, h4⟩ => ⟨ρr, r1, rp, h1, h2, TRepV.to (hG.imp id fun h => by simp only [RM.flat, Bool.and_eq_true] at h; exact h.1) h3, PRep.to (hG.imp id fun h => by simp only [RM.flat, Bool.and_eq_true] at h; exact h.2) h4⟩
theorem ResL_to {G G' : Nat → Prop} : ∀ {rs : List RM} {v : RDen rs} {xs : List Value} {ris : List RI}, ((∀ b, G b → G' b) ∨ rs.all RM.flat = true) → ResRepL G w ρ rs v xs ris → ResRepL G' w ρ rs v xs ris
 | [], v, xs, ris, hG, h => h
 | r :: rs, v, xs, ris, hG, ⟨x, l, r1, r2, e1, e2, h1, h2⟩ => ⟨x, l, r1, r2, e1, e2, Res1_to (hG.imp id fun h => by simp only [List.all_cons, Bool.and_eq_true] at h; exact h.1) h1, ResL_to (hG.imp id fun h => by simp only [List.all_cons, Bool.and_eq_true] at h; exact h.2) h2⟩
theorem Res_to {G G' : Nat → Prop} {rs : List RM} {v : RDen rs} {x : Value} {ris : List RI} (hG : (∀ b, G b → G' b) ∨ rs.all RM.flat = true) (h : ResRep G w ρ rs v x ris) : ResRep G' w ρ rs v x ris := by
 match rs, v, h with
 | [], v, h => exact h
 | [r], v, h => exact Res1_to (hG.imp id fun h => by simpa using h) h
 | r :: q :: rs, v, ⟨l, e, h⟩ => exact ⟨l, e, ResL_to hG h⟩
theorem shV_rep {bs : Nat → Nat} {ρ' : RK → Option RI} (hρ : ∀ p i x, ρ (.pl p i) = some x → ρ' (.pl p (i + bs p)) = some x) : ∀ (t : Ty) (v : t.den) (cs : List Value), t.hold = true → Rep F m ρ t v cs → Rep F m ρ' t (shV bs t v) cs
 | .st t, v, cs, hp, h => shV_rep hρ t v cs hp h
 | .pair a b, v, cs, hp, ⟨c1, c2, e, h1, h2⟩ => by
  simp only [Ty.hold, Bool.and_eq_true] at hp
  exact ⟨c1, c2, e, shV_rep hρ a _ _ hp.1 h1, shV_rep hρ b _ _ hp.2 h2⟩
 | .psl q, v, cs, hp, h => by
  rcases h with ⟨rfl, e⟩ | ⟨i, u, rfl, ri, h1, h2⟩
  ·exact .inl ⟨rfl, e⟩
  ·exact .inr ⟨i + bs q, u, rfl, ri, hρ _ _ _ h1, h2⟩
 | .int _, _, _, _, h => h
 | .bool, _, _, _, h => h
 | .str, _, _, _, h => h
 | .unit, _, _, _, h => h
 | .slice t, v, cs, hp, h => by
  show Rep F m ρ' (.slice t) (bif t.pure then v else List.map (shV bs t) v) cs
  cases hpu : t.pure with
  | true => exact Rep.pure (.slice t) v cs hpu h
  | false =>
   obtain ⟨A, n, c, e, hn, hc, h⟩ := h
   refine ⟨A, n, c, e, by rw [hn]; simp, hc, fun h0 => ?_⟩
   obtain ⟨p, e, hp', h⟩ := h h0
   refine ⟨p, e, hp', fun i x hi => ?_⟩
   simp only [cond_false, List.getElem?_map] at hi
   cases hx : v[i]? with
   | none => rw [hx] at hi; cases hi
   | some y =>
    rw [hx] at hi
    cases hi
    obtain ⟨ds, h1, h2⟩ := h i y hx
    exact ⟨ds, h1, shV_rep hρ t y ds hp h2⟩
 | .sln t, v, cs, hp, h => Rep.pure (.sln t) v cs hp h
 | .ptr t, v, cs, hp, h => Rep.pure (.ptr t) v cs hp h
 | .rad t o, v, cs, hp, h => Rep.pure (.rad t o) v cs hp h
 | .clo f c, v, cs, hp, h => Rep.pure (.clo f c) v cs hp h
 | .fmp k t, v, cs, hp, h => Rep.pure (.fmp k t) v cs hp h
 | .nils, _, _, _, h => h
 | .nilp, _, _, _, h => h
 | .lost, _, _, _, h => h
theorem shV_row {bs : Nat → Nat} {ρ' : RK → Option RI} (hρ : ∀ p i x, ρ (.pl p i) = some x → ρ' (.pl p (i + bs p)) = some x) {ri : RI} {t : Ty} {xs : List t.den} (h : ORep F w ρ ri ⟨t, xs⟩) : ORep F w ρ' ri ⟨t, xs.map (shV bs t)⟩ :=
 ⟨by rw [List.length_map]; exact h.n, h.sz, h.le, h.pure, h.none, h.raw, h.block, fun p hA i x hi => by
  rw [List.getElem?_map] at hi
  cases hx : xs[i]? with
  | none => rw [hx] at hi; cases hi
  | some y =>
   rw [hx] at hi
   cases hi
   obtain ⟨ds, h1, h2⟩ := h.cells p hA i y hx
   exact ⟨ds, h1, shV_rep hρ _ _ _ h.pure h2⟩, h.sub⟩
theorem shV_tree {bs : Nat → Nat} {ρ' : RK → Option RI} (hρ : ∀ p i x, ρ (.pl p i) = some x → ρ' (.pl p (i + bs p)) = some x) : ∀ (t : Ty) (v : t.den) (cs : List Value) (ris : List RI), TRep F w ρ t v cs ris → TRep F w ρ' t (shV bs t v) cs ris
 | .vec t, xs, cs, ris, ⟨ri, e1, e2, ho⟩ => ⟨ri, e1, e2, shV_row hρ ho⟩
 | .iter, v, cs, ris, h => h
 | .mpc k t, v, cs, ris, ⟨ri, e1, e2, ho⟩ => ⟨ri, e1, e2, ho.maps fun v cs hv => shV_rep hρ t v cs ho.hold hv⟩
 | .mit k t, v, cs, ris, ⟨ri, e1, e2, ho⟩ => ⟨ri, e1, e2, ho.maps fun v cs hv => shV_rep hρ t v cs ho.hold hv⟩
 | .bx t, v, cs, ris, ⟨ri, rs, p, ds, cells, el, e1, e2, h1, h2, h3, h4, h5, h6⟩ => ⟨ri, rs, p, ds, cells, el, e1, e2, h1, h2, h3, h4, h5, shV_tree hρ t v ds rs h6⟩
 | .st t, v, cs, ris, h => shV_tree hρ t v cs ris h
 | .pair a b, v, cs, ris, ⟨c1, c2, r1, r2, e1, e2, h1, h2⟩ => ⟨c1, c2, r1, r2, e1, e2, shV_tree hρ a _ _ _ h1, shV_tree hρ b _ _ _ h2⟩
 | .int _, v, cs, ris, ⟨e, hp, h⟩ => ⟨e, hp, h⟩
 | .bool, v, cs, ris, ⟨e, hp, h⟩ => ⟨e, hp, h⟩
 | .str, v, cs, ris, ⟨e, hp, h⟩ => ⟨e, hp, h⟩
 | .unit, v, cs, ris, ⟨e, hp, h⟩ => ⟨e, hp, h⟩
 | .slice t, v, cs, ris, ⟨e, hp, h⟩ => ⟨e, hp, shV_rep hρ (.slice t) v cs hp h⟩
 | .sln t, v, cs, ris, ⟨e, hp, h⟩ => ⟨e, hp, shV_rep hρ (.sln t) v cs hp h⟩
 | .ptr t, v, cs, ris, ⟨e, hp, h⟩ => ⟨e, hp, shV_rep hρ (.ptr t) v cs hp h⟩
 | .rad t o, v, cs, ris, ⟨e, hp, h⟩ => ⟨e, hp, shV_rep hρ (.rad t o) v cs hp h⟩
 | .ow _, v, cs, ris, ⟨e, hp, h⟩ => by cases hp
 | .osl _, v, cs, ris, ⟨e, hp, h⟩ => by cases hp
 | .oad _ _, v, cs, ris, ⟨e, hp, h⟩ => by cases hp
 | .clo f c, v, cs, ris, ⟨e, hp, h⟩ => ⟨e, hp, shV_rep hρ (.clo f c) v cs hp h⟩
 | .tup _, v, cs, ris, ⟨e, hp, h⟩ => by cases hp
 | .nils, v, cs, ris, ⟨e, hp, h⟩ => ⟨e, hp, h⟩
 | .nilp, v, cs, ris, ⟨e, hp, h⟩ => ⟨e, hp, h⟩
 | .lost, v, cs, ris, ⟨e, hp, h⟩ => ⟨e, hp, h⟩
 | .any, v, cs, ris, ⟨e, hp, h⟩ => by cases hp
 | .nxt _ _, v, cs, ris, ⟨e, hp, h⟩ => by cases hp
 | .psl p, v, cs, ris, ⟨e, hp, h⟩ => ⟨e, hp, shV_rep hρ (.psl p) v cs hp h⟩
 | .pdd _ _, v, cs, ris, ⟨e, hp, h⟩ => by cases hp
 | .pad _ _, v, cs, ris, ⟨e, hp, h⟩ => by cases hp
 | .mpv _, v, cs, ris, ⟨e, hp, h⟩ => by cases hp
 | .fmp k t, v, cs, ris, ⟨e, hp, h⟩ => ⟨e, hp, shV_rep hρ (.fmp k t) v cs hp h⟩
theorem shV_V {bs : Nat → Nat} {ρ' : RK → Option RI} (hρ : ∀ p i x, ρ (.pl p i) = some x → ρ' (.pl p (i + bs p)) = some x) {t : Ty} {v : t.den} {x : Value} {ris : List RI} (h : TRepV F w ρ t v x ris) : TRepV F w ρ' t (shV bs t v) x ris := by
 unfold TRepV at *
 split at h
 ·rename_i hs; rw [if_pos hs]; obtain ⟨cs, e, h⟩ := h; exact ⟨cs, e, shV_tree hρ _ _ _ _ h⟩
 ·rename_i hs; rw [if_neg hs]; exact ⟨h.1, shV_tree hρ _ _ _ _ h.2⟩
theorem plsOk_cons {k : Nat} {t : Ty} {ps : List (Nat × Ty)} (h : plsOk s ((k, t) :: ps) = true) : (∃ q, pol s.pls k = some q ∧ q.t = t) ∧ inPl k ps = false ∧ plsOk s ps = true := by
 simp only [plsOk, List.map_cons, List.all_cons, Bool.and_eq_true] at h
 obtain ⟨h1, h2, h3⟩ := h
 obtain ⟨h4, h5⟩ := noDup_cons h1
 refine ⟨?_, ?_, by simp only [plsOk, h5, h3, Bool.and_true]⟩
 ·have h2 := of_decide_eq_true h2
  unfold pty at h2
  cases hp : pol s.pls k with
  | none => rw [hp] at h2; cases h2
  | some q => rw [hp] at h2; exact ⟨q, rfl, Option.some.inj h2⟩
 ·cases hb : inPl k ps with
  | false => rfl
  | true => exact absurd (inPl_mem.1 hb) h4
structure Adds (s : St) (bs : Nat → Nat) (ps : List (Nat × Ty)) (v : PlDen ps) (s' : St) : Prop where
 slots : s'.slots = s.slots
 n : s'.n = s.n
 nx : s'.nx = s.nx
 objs : s'.objs = s.objs
 cont : ∀ p i, s'.cont (.pl p i) = if inPl p ps then (if i < bs p then s.cont (.pl p i) else match pCont ps v p (i - bs p) with
  | some (.arr ob) => some (.arr ⟨ob.t, ob.xs.map (shV bs ob.t)⟩)
  | _ => none) else s.cont (.pl p i)
 pln : ∀ p, s'.pln p = if inPl p ps then (match pLen ps v p with | some k => some (bs p + k) | none => none) else s.pln p
theorem addPls_law {bs : Nat → Nat} : ∀ (ps : List (Nat × Ty)) (v : PlDen ps) {s : St}, plsOk s ps = true → (∀ p, inPl p ps = true → s.pln p = some (bs p)) → Adds s bs ps v (addPls bs s ps v)
 | [], v, s, _, _ => ⟨rfl, rfl, rfl, rfl, fun p i => by simp [inPl, addPls], fun p => by simp [inPl, addPls]⟩
 | (k, t) :: ps, v, s, h, hb => by
  obtain ⟨⟨q, hq, ht⟩, hn, hps⟩ := plsOk_cons h
  subst ht
  have hlen : q.l.length = bs k := by
   have := hb k (by simp [inPl, Nat.beq_refl])
   rw [pln_of hq] at this; exact Option.some.inj this
  have hne : ∀ p, inPl p ps = true → k ≠ p := fun p hp e => by subst e; rw [hn] at hp; cases hp
  have ih := addPls_law ps v.2 (s := s.setPl k ⟨q.t, q.l ++ shL bs q.t v.1⟩) (by
   simp only [plsOk, Bool.and_eq_true] at hps ⊢
   refine ⟨hps.1, List.all_eq_true.2 fun x hx => ?_⟩
   have := List.all_eq_true.1 hps.2 x hx
   have hk : k ≠ x.1 := hne x.1 (inPl_mem.2 (List.mem_map_of_mem hx))
   have e : pty (s.setPl k ⟨q.t, q.l ++ shL bs q.t v.1⟩) x.1 = pty s x.1 := by simp only [pty, pol_setPl, if_neg hk]
   rw [e]; exact this) (fun p hp => by
   rw [pln_setPl, if_neg (hne p hp)]
   exact hb p (by simp [inPl, hp]))
  have e : addPls bs s ((k, q.t) :: ps) v = addPls bs (s.setPl k ⟨q.t, q.l ++ shL bs q.t v.1⟩) ps v.2 := by
   simp only [addPls, hq, dif_pos]
  rw [e]
  refine ⟨ih.slots, ih.n, ih.nx, ih.objs, fun p i => ?_, fun p => ?_⟩
  ·rw [ih.cont, setPl_cont hq]
   cases hbk : Nat.beq k p with
   | true =>
    have e := Nat.eq_of_beq_eq_true hbk
    subst e
    have hi : inPl k ((k, q.t) :: ps) = true := by simp [inPl]
    rw [if_neg (by rw [hn]; simp), if_pos hi]
    simp only [if_true, PL.cont, pCont, hbk, cond_true]
    rw [← hlen]
    by_cases hlt : i < q.l.length
    ·rw [if_pos hlt]
     simp only [List.getElem?_append_left hlt, St.cont, hq, PL.cont]
     cases q.l[i]? with
     | none => rfl
     | some o => cases o <;> rfl
    ·rw [if_neg hlt]
     simp only [List.getElem?_append_right (Nat.le_of_not_lt hlt), shL, List.getElem?_map]
     cases v.1[i - q.l.length]? with
     | none => rfl
     | some o => cases o <;> rfl
   | false =>
    have hk : k ≠ p := fun e => by subst e; rw [Nat.beq_refl] at hbk; cases hbk
    simp only [inPl, hbk, Bool.false_or, pCont, cond_false, if_neg hk]
  ·rw [ih.pln, pln_setPl]
   cases hbk : Nat.beq k p with
   | true =>
    have e := Nat.eq_of_beq_eq_true hbk
    subst e
    simp only [hn, inPl, hbk, Bool.true_or, if_true, pLen, cond_true, Bool.false_eq_true, if_false]
    simp [shL, hlen]
   | false =>
    have hk : k ≠ p := fun e => by subst e; rw [Nat.beq_refl] at hbk; cases hbk
    simp only [inPl, hbk, Bool.false_or, pLen, cond_false, if_neg hk]
def extP (ρ : RK → Option RI) (bs : Nat → Nat) (ps : List (Nat × Ty)) (ρr : RK → Option RI) : RK → Option RI
 | .reg r => ρ r
 | .pl p i => if inPl p ps = true ∧ bs p ≤ i then ρr (.pl p (i - bs p)) else ρ (.pl p i)
theorem pLen_in : ∀ {ps : List (Nat × Ty)} {v : PlDen ps} {p : Nat}, inPl p ps = true → ∃ n, pLen ps v p = some n
 | [], v, p, h => by cases h
 | (k, t) :: ps, v, p, h => by
  simp only [pLen]
  cases hb : Nat.beq k p with
  | true => exact ⟨_, rfl⟩
  | false =>
   simp only [inPl, hb, Bool.false_or] at h
   exact pLen_in (ps := ps) h
theorem pools_law (h : RelAt F0 M W0 F ρ s a w) {bs : Nat → Nat} {ps : List (Nat × Ty)} {v : PlDen ps} {ρr : RK → Option RI} {rp : RI} {s' : St} (hbs : ∀ p, inPl p ps = true → s.pln p = some (bs p)) (hb0 : ∀ p, inPl p ps = false → bs p = 0) (ha : Adds s bs ps v s') (hr : PRep F w ρr ps v rp)
  (hout : ∀ p i, inPl p ps = false → ρr (.pl p i) = ρ (.pl p i))
  (hb : ∀ b, rp.blk b → ¬ F b ∧ (W0.heap.size ≤ b ∨ M b) ∧ ∀ q c ri, s.cont q = some c → ρ q = some ri → ¬ ri.blk b) :
  RelAt F0 M W0 F (extP ρ bs ps ρr) s' a w ∧ (∀ k x, ρ k = some x → extP ρ bs ps ρr k = some x) ∧ ∀ p i x, ρr (.pl p i) = some x → extP ρ bs ps ρr (.pl p (i + bs p)) = some x := by
 have hle : ∀ k x, ρ k = some x → extP ρ bs ps ρr k = some x := fun k x hk => by
  cases k with
  | reg r => exact hk
  | pl p i =>
   simp only [extP]
   split
   ·rename_i hc
    have := h.pfresh p _ i (hbs p hc.1) hc.2
    rw [hk] at this; cases this
   ·exact hk
 have hsh : ∀ p i x, ρr (.pl p i) = some x → extP ρ bs ps ρr (.pl p (i + bs p)) = some x := fun p i x hx => by
  simp only [extP]
  cases hp : inPl p ps with
  | true => rw [if_pos ⟨rfl, by omega⟩, Nat.add_sub_cancel]; exact hx
  | false => rw [if_neg (by simp), hb0 p hp, Nat.add_zero, ← hout p i hp]; exact hx
 have hreg : ∀ r : Nat, s'.cont (.reg r) = s.cont (.reg r) := fun r => by simp only [St.cont, ha.objs]
 have key : ∀ {k c}, s'.cont k = some c → (s.cont k = some c ∧ ∃ ri, ρ k = some ri ∧ extP ρ bs ps ρr k = some ri ∧ CRep F w ρ ri c) ∨
   ∃ p i c0 ri, k = .pl p (i + bs p) ∧ pCont ps v p i = some c0 ∧ ρr (.pl p i) = some ri ∧ extP ρ bs ps ρr k = some ri ∧ CRep F w (extP ρ bs ps ρr) ri c ∧ ∀ b, ri.blk b → b ∈ rp.sub := fun {k c} hk => by
  have old : s.cont k = some c → (s.cont k = some c ∧ ∃ ri, ρ k = some ri ∧ extP ρ bs ps ρr k = some ri ∧ CRep F w ρ ri c) := fun h0 => by
   obtain ⟨ri, h1, h2⟩ := h.cobj k c h0
   exact ⟨h0, ri, h1, hle _ _ h1, h2⟩
  cases k with
  | reg r => rw [hreg] at hk; exact .inl (old hk)
  | pl p i =>
   rw [ha.cont] at hk
   split at hk
   ·rename_i hp
    split at hk
    ·exact .inl (old hk)
    ·rename_i hge
     split at hk
     ·rename_i ob hob
      cases hk
      obtain ⟨ri, g1, g2, g3⟩ := hr.obj p _ _ hob
      have e : i - bs p + bs p = i := by omega
      refine .inr ⟨p, i - bs p, _, ri, by rw [e], hob, g1, ?_, shV_row hsh g2, g3⟩
      have := hsh p (i - bs p) ri g1
      rwa [e] at this
     ·cases hk
   ·exact .inl (old hk)
 have hblk : ∀ {b}, b ∈ rp.sub → rp.blk b := fun {b} hb => .inr hb
 refine ⟨⟨h.defers, fun i x hx => ?_, fun k c hk => ?_, fun k k' c c' ri ri' b hk hk' e1 e2 b1 b2 => ?_, fun k c ri b hk e1 b1 => ?_, fun r hr' => ?_, fun p n i hn hi => ?_, fun p i hn => ?_, h.lt, h.base, h.frm, h.kept⟩, hle, hsh⟩
 ·have hx' : s.get i = some x := by rw [← hx]; simp only [St.get, ha.slots, ha.n]
  obtain ⟨val, h1, h2⟩ := h.slot i x hx'
  exact ⟨val, h1, RepV.mono (fun _ h => h) (fun _ _ _ _ h => h) hle _ _ _ h2⟩
 ·rcases key hk with ⟨_, ri, _, h2, h3⟩ | ⟨p, i, c0, ri, _, _, _, h4, h5, _⟩
  ·exact ⟨ri, h2, h3.mono (fun _ h => h) hle⟩
  ·exact ⟨ri, h4, h5⟩
 ·rcases key hk with ⟨g0, r1, g1, g2, _⟩ | ⟨p, i, c0, r1, rfl, g1, g2, g3, _, g4⟩ <;> rcases key hk' with ⟨k0, r2, k1, k2, _⟩ | ⟨p', i', c0', r2, rfl, k1, k2, k3, _, k4⟩
  ·rw [g2] at e1; cases e1
   rw [k2] at e2; cases e2
   exact h.csep k k' c c' ri ri' b g0 k0 g1 k1 b1 b2
  ·rw [g2] at e1; cases e1
   rw [k3] at e2; cases e2
   exact absurd b1 ((hb b (hblk (k4 b b2))).2.2 k c ri g0 g1)
  ·rw [g3] at e1; cases e1
   rw [k2] at e2; cases e2
   exact absurd b2 ((hb b (hblk (g4 b b1))).2.2 k' c' ri' k0 k1)
  ·rw [g3] at e1; cases e1
   rw [k3] at e2; cases e2
   obtain ⟨rfl, rfl⟩ := hr.sep p i p' i' c0 c0' ri ri' b g1 k1 g2 k2 b1 b2
   rfl
 ·rcases key hk with ⟨g0, r1, g1, g2, _⟩ | ⟨p, i, c0, r1, rfl, g1, g2, g3, _, g4⟩
  ·rw [g2] at e1; cases e1
   exact h.cown k c ri b g0 g1 b1
  ·rw [g3] at e1; cases e1
   have := hb b (hblk (g4 b b1))
   exact ⟨this.1, this.2.1⟩
 ·rw [ha.objs] at hr'
  exact h.fresh r hr'
 ·rw [ha.pln] at hn
  simp only [extP]
  split at hn
  ·rename_i hp
   obtain ⟨k, hk⟩ := pLen_in (v := v) hp
   rw [hk] at hn
   cases hn
   rw [if_pos ⟨hp, by omega⟩]
   exact hr.fresh p k _ hk (by omega)
  ·rename_i hp
   rw [if_neg (fun hc => hp hc.1)]
   exact h.pfresh p n i hn hi
 ·rw [ha.pln] at hn
  simp only [extP]
  split at hn
  ·rename_i hp
   obtain ⟨k, hk⟩ := pLen_in (v := v) hp
   rw [hk] at hn; cases hn
  ·rename_i hp
   rw [if_neg (fun hc => hp hc.1)]
   exact h.pfor p i hn
theorem shV_zero : ∀ {t : Ty} {v : t.den}, shV (fun _ => 0) t v = v
 | .psl p, v => by cases v <;> rfl
 | .st t, v => shV_zero (t := t)
 | .pair a b, v => by
  show (shV _ a v.1, shV _ b v.2) = v
  rw [shV_zero, shV_zero]
 | .vec t, v => by
  show List.map (shV (fun _ => 0) t) v = v
  have : shV (fun _ => 0) t = fun x => x := by funext x; exact shV_zero
  rw [this]; simp
 | .mpc k t, v => by
  show List.map (fun p => (p.1, shV (fun _ => 0) t p.2)) v = v
  have : shV (fun _ => 0) t = fun x => x := by funext x; exact shV_zero
  rw [this]; simp
 | .mit k t, v => by
  show (List.map (fun p => (p.1, shV (fun _ => 0) t p.2)) v.1, v.2.map fun p => (p.1, shV (fun _ => 0) t p.2)) = v
  have : shV (fun _ => 0) t = fun x => x := by funext x; exact shV_zero
  rw [this]; obtain ⟨a, b⟩ := v; cases b <;> simp
 | .mpv _, _ => rfl
 | .fmp _ _, _ => rfl
 | .bx t, v => shV_zero (t := t)
 | .int _, _ => rfl
 | .bool, _ => rfl
 | .str, _ => rfl
 | .unit, _ => rfl
 | .slice t, v => by
  show (bif t.pure then v else List.map (shV (fun _ => 0) t) v) = v
  have : shV (fun _ => 0) t = fun x => x := by funext x; exact shV_zero
  rw [this]; cases t.pure <;> simp
 | .sln _, _ => rfl
 | .ptr _, _ => rfl
 | .rad _ _, _ => rfl
 | .ow _, _ => rfl
 | .osl _, _ => rfl
 | .oad _ _, _ => rfl
 | .clo _ _, _ => rfl
 | .tup _, _ => rfl
 | .nils, _ => rfl
 | .nilp, _ => rfl
 | .lost, _ => rfl
 | .any, _ => rfl
 | .iter, _ => rfl
 | .nxt _ _, _ => rfl
 | .pdd _ _, _ => rfl
 | .pad _ _, _ => rfl
theorem TRep.holdP : ∀ (t : Ty) (v : t.den) (cs : List Value) (ris : List RI), (∀ p ∈ t.pls, ∀ i x, ρ (.pl p i) = some x → ρ' (.pl p i) = some x) → TRep F w ρ t v cs ris → TRep F w ρ' t v cs ris
 | .vec t, xs, cs, ris, hp, ⟨ri, e1, e2, ho⟩ => ⟨ri, e1, e2, ORep.holdP hp ho⟩
 | .iter, v, cs, ris, hp, h => h
 | .mpc k t, v, cs, ris, hp, ⟨ri, e1, e2, ho⟩ => ⟨ri, e1, e2, ho.reps fun v cs hv => Rep.holdP t v cs ho.hold hp hv⟩
 | .mit k t, v, cs, ris, hp, ⟨ri, e1, e2, ho⟩ => ⟨ri, e1, e2, ho.reps fun v cs hv => Rep.holdP t v cs ho.hold hp hv⟩
 | .mpv _, v, cs, ris, hp, ⟨e, hh, h⟩ => ⟨e, hh, Rep.holdP _ _ _ hh hp h⟩
 | .fmp _ _, v, cs, ris, hp, ⟨e, hh, h⟩ => ⟨e, hh, Rep.holdP _ _ _ hh hp h⟩
 | .bx t, v, cs, ris, hp, ⟨ri, rs, p, ds, cells, el, e1, e2, h1, h2, h3, h4, h5, h6⟩ => ⟨ri, rs, p, ds, cells, el, e1, e2, h1, h2, h3, h4, h5, TRep.holdP t v ds rs hp h6⟩
 | .st t, v, cs, ris, hp, h => TRep.holdP t v cs ris hp h
 | .pair a b, v, cs, ris, hp, ⟨c1, c2, r1, r2, e1, e2, h1, h2⟩ => ⟨c1, c2, r1, r2, e1, e2, TRep.holdP a _ _ _ (fun p hm => hp p (by simp [Ty.pls, hm])) h1, TRep.holdP b _ _ _ (fun p hm => hp p (by simp [Ty.pls, hm])) h2⟩
 | .int _, v, cs, ris, hp, ⟨e, hh, h⟩ => ⟨e, hh, Rep.holdP _ _ _ hh hp h⟩
 | .bool, v, cs, ris, hp, ⟨e, hh, h⟩ => ⟨e, hh, Rep.holdP _ _ _ hh hp h⟩
 | .str, v, cs, ris, hp, ⟨e, hh, h⟩ => ⟨e, hh, Rep.holdP _ _ _ hh hp h⟩
 | .unit, v, cs, ris, hp, ⟨e, hh, h⟩ => ⟨e, hh, Rep.holdP _ _ _ hh hp h⟩
 | .slice _, v, cs, ris, hp, ⟨e, hh, h⟩ => ⟨e, hh, Rep.holdP _ _ _ hh hp h⟩
 | .sln _, v, cs, ris, hp, ⟨e, hh, h⟩ => ⟨e, hh, Rep.holdP _ _ _ hh hp h⟩
 | .ptr _, v, cs, ris, hp, ⟨e, hh, h⟩ => ⟨e, hh, Rep.holdP _ _ _ hh hp h⟩
 | .rad _ _, v, cs, ris, hp, ⟨e, hh, h⟩ => ⟨e, hh, Rep.holdP _ _ _ hh hp h⟩
 | .ow _, v, cs, ris, hp, ⟨e, hh, h⟩ => ⟨e, hh, Rep.holdP _ _ _ hh hp h⟩
 | .osl _, v, cs, ris, hp, ⟨e, hh, h⟩ => ⟨e, hh, Rep.holdP _ _ _ hh hp h⟩
 | .oad _ _, v, cs, ris, hp, ⟨e, hh, h⟩ => ⟨e, hh, Rep.holdP _ _ _ hh hp h⟩
 | .clo _ _, v, cs, ris, hp, ⟨e, hh, h⟩ => ⟨e, hh, Rep.holdP _ _ _ hh hp h⟩
 | .tup _, v, cs, ris, hp, ⟨e, hh, h⟩ => ⟨e, hh, Rep.holdP _ _ _ hh hp h⟩
 | .nils, v, cs, ris, hp, ⟨e, hh, h⟩ => ⟨e, hh, Rep.holdP _ _ _ hh hp h⟩
 | .nilp, v, cs, ris, hp, ⟨e, hh, h⟩ => ⟨e, hh, Rep.holdP _ _ _ hh hp h⟩
 | .lost, v, cs, ris, hp, ⟨e, hh, h⟩ => ⟨e, hh, Rep.holdP _ _ _ hh hp h⟩
 | .any, v, cs, ris, hp, ⟨e, hh, h⟩ => ⟨e, hh, Rep.holdP _ _ _ hh hp h⟩
 | .nxt _ _, v, cs, ris, hp, ⟨e, hh, h⟩ => ⟨e, hh, Rep.holdP _ _ _ hh hp h⟩
 | .psl _, v, cs, ris, hp, ⟨e, hh, h⟩ => ⟨e, hh, Rep.holdP _ _ _ hh hp h⟩
 | .pdd _ _, v, cs, ris, hp, ⟨e, hh, h⟩ => ⟨e, hh, Rep.holdP _ _ _ hh hp h⟩
 | .pad _ _, v, cs, ris, hp, ⟨e, hh, h⟩ => ⟨e, hh, Rep.holdP _ _ _ hh hp h⟩
theorem TRepV.holdP {t : Ty} {v : t.den} {x : Value} {ris : List RI} (hp : ∀ p ∈ t.pls, ∀ i x, ρ (.pl p i) = some x → ρ' (.pl p i) = some x) (h : TRepV F w ρ t v x ris) : TRepV F w ρ' t v x ris := by
 unfold TRepV at *
 split at h
 ·rename_i hs; rw [if_pos hs]; obtain ⟨cs, e, h⟩ := h; exact ⟨cs, e, TRep.holdP _ _ _ _ hp h⟩
 ·rename_i hs; rw [if_neg hs]; exact ⟨h.1, TRep.holdP _ _ _ _ hp h.2⟩
end Go.Vu
