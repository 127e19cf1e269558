/- A pool by the order in which a value tells of its objects: the same results. -/
import Derived.Test.YtaeobljnmfbdmaaVuLaw19
set_option linter.unusedVariables false
namespace Go.Vu
open Go
variable {F : Nat → Prop} {w : World} {ρ ρ' : RK → Option RI} {m : Nat → Nat → Option Value}
theorem rnV_rep {p : Nat} {f : Nat → Nat} (ho : ∀ q, q ≠ p → ∀ i x, ρ (.pl q i) = some x → ρ' (.pl q i) = some x) : ∀ (t : Ty) (v : t.den) (cs : List Value), rnOk t = true → t.hold = true → (∀ i ∈ hsV p t v, ∀ x, ρ (.pl p i) = some x → ρ' (.pl p (f i)) = some x) → Rep F m ρ t v cs → Rep F m ρ' t (rnV p f t v) cs := by
 intro t
 induction t with
 | st t ih => intro v cs hr hh hf h; exact ih v cs hr hh hf h
 | pair a b iha ihb =>
  intro v cs hr hh hf h
  simp only [rnOk, Bool.and_eq_true] at hr
  simp only [Ty.hold, Bool.and_eq_true] at hh
  obtain ⟨c1, c2, e, h1, h2⟩ := h
  exact ⟨c1, c2, e, iha _ _ hr.1 hh.1 (fun i hi => hf i (List.mem_append_left _ hi)) h1, ihb _ _ hr.2 hh.2 (fun i hi => hf i (List.mem_append_right _ hi)) h2⟩
 | psl q =>
  intro v cs hr hh hf h
  show Rep F m ρ' (.psl q) (bif Nat.beq q p then rnH f v else v) cs
  have hf' : ∀ i ∈ (bif Nat.beq q p then hsH v else []), ∀ x, ρ (.pl p i) = some x → ρ' (.pl p (f i)) = some x := hf
  cases hb : Nat.beq q p with
  | false =>
   have hq : q ≠ p := fun e => by subst e; rw [Nat.beq_refl] at hb; cases hb
   rcases h with ⟨rfl, e⟩ | ⟨i, u, rfl, ri, h1, h2⟩
   ·exact .inl ⟨rfl, e⟩
   ·exact .inr ⟨i, u, rfl, ri, ho q hq i ri h1, h2⟩
  | true =>
   have hq : q = p := Nat.eq_of_beq_eq_true hb
   subst hq
   rw [hb] at hf'
   rcases h with ⟨rfl, e⟩ | ⟨i, u, rfl, ri, h1, h2⟩
   ·exact .inl ⟨rfl, e⟩
   ·exact .inr ⟨f i, u, rfl, ri, hf' i (by simp [hsH]) ri h1, h2⟩
 | vec t ih => intro v cs hr hh hf h; exact h.elim
 | _ =>
  intro v cs hr hh hf h
  exact Rep.holdP _ _ _ hh (fun q hq => by rw [List.isEmpty_iff.1 hr] at hq; cases hq) h
theorem rnV_row {p : Nat} {f : Nat → Nat} (ho : ∀ q, q ≠ p → ∀ i x, ρ (.pl q i) = some x → ρ' (.pl q i) = some x) {ri : RI} {t : Ty} {xs : List t.den} (hr : rnOk t = true) (hf : ∀ i ∈ List.flatMap (hsV p t) xs, ∀ x, ρ (.pl p i) = some x → ρ' (.pl p (f i)) = some x) (h : ORep F w ρ ri ⟨t, xs⟩) : ORep F w ρ' ri ⟨t, xs.map (rnV p f t)⟩ :=
 ⟨by rw [List.length_map]; exact h.n, h.sz, h.le, h.pure, h.none, h.raw, h.block, fun p' hA i x hi => by
  rw [List.getElem?_map] at hi
  cases hx : xs[i]? with
  | none => rw [hx] at hi; cases hi
  | some y =>
   rw [hx] at hi
   cases hi
   obtain ⟨ds, h1, h2⟩ := h.cells p' hA i y hx
   exact ⟨ds, h1, rnV_rep ho _ _ _ hr h.pure (fun j hj => hf j (List.mem_flatMap.2 ⟨y, List.mem_of_getElem? hx, hj⟩)) h2⟩, h.sub⟩
theorem rnV_tree {p : Nat} {f : Nat → Nat} (ho : ∀ q, q ≠ p → ∀ i x, ρ (.pl q i) = some x → ρ' (.pl q i) = some x) : ∀ (t : Ty) (v : t.den) (cs : List Value) (ris : List RI), rnOk t = true → (∀ i ∈ hsV p t v, ∀ x, ρ (.pl p i) = some x → ρ' (.pl p (f i)) = some x) → TRep F w ρ t v cs ris → TRep F w ρ' t (rnV p f t v) cs ris := by
 intro t
 induction t with
 | st t ih => intro v cs ris hr hf h; exact ih v cs ris hr hf h
 | pair a b iha ihb =>
  intro v cs ris hr hf h
  simp only [rnOk, Bool.and_eq_true] at hr
  obtain ⟨c1, c2, r1, r2, e1, e2, h1, h2⟩ := h
  exact ⟨c1, c2, r1, r2, e1, e2, iha _ _ _ hr.1 (fun i hi => hf i (List.mem_append_left _ hi)) h1, ihb _ _ _ hr.2 (fun i hi => hf i (List.mem_append_right _ hi)) h2⟩
 | vec t ih =>
  intro v cs ris hr hf h
  obtain ⟨ri, e1, e2, h⟩ := h
  exact ⟨ri, e1, e2, rnV_row ho hr hf h⟩
 | psl q =>
  intro v cs ris hr hf h
  obtain ⟨e, hp, h⟩ := h
  exact ⟨e, hp, rnV_rep ho _ _ _ hr hp hf h⟩
 | _ =>
  intro v cs ris hr hf h
  exact TRep.holdP _ _ _ _ (fun q hq => by rw [List.isEmpty_iff.1 hr] at hq; cases hq) h
theorem rnV_V {p : Nat} {f : Nat → Nat} (ho : ∀ q, q ≠ p → ∀ i x, ρ (.pl q i) = some x → ρ' (.pl q i) = some x) {t : Ty} {v : t.den} {x : Value} {ris : List RI} (hr : rnOk t = true) (hf : ∀ i ∈ hsV p t v, ∀ x, ρ (.pl p i) = some x → ρ' (.pl p (f i)) = some x) (h : TRepV F w ρ t v x ris) : TRepV F w ρ' t (rnV p f t v) x ris := by
 unfold TRepV at *
 split at h
 ·rename_i hs; rw [if_pos hs]; obtain ⟨cs, e, h⟩ := h; exact ⟨cs, e, rnV_tree ho _ _ _ _ hr hf h⟩
 ·rename_i hs; rw [if_neg hs]; exact ⟨h.1, rnV_tree ho _ _ _ _ hr hf h.2⟩
theorem noDup_nodup : ∀ {l : List Nat}, noDup l = true → l.Nodup
 | [], _ => List.nodup_nil
 | x :: l, h => by
  simp only [noDup, Bool.and_eq_true, Bool.not_eq_true', List.contains_eq_mem, decide_eq_false_iff_not] at h
  exact List.nodup_cons.2 ⟨h.1, noDup_nodup h.2⟩
theorem poolAt_some {α : Type} {l : List (Option α)} {i : Nat} {x : α} : poolAt l i = some x ↔ l[i]? = some (some x) := by
 unfold poolAt
 cases h : l[i]? with
 | none => simp
 | some o => simp
theorem idxOf_get {L : List Nat} {i : Nat} (h : i ∈ L) : L[L.idxOf i]? = some i := by
 have := List.idxOf_lt_length_of_mem h
 rw [List.getElem?_eq_getElem this, List.getElem_idxOf this]
theorem nodup_get {L : List Nat} (h : L.Nodup) {i j k : Nat} (h1 : L[i]? = some k) (h2 : L[j]? = some k) : i = j := by
 obtain ⟨l1, e1⟩ := List.getElem?_eq_some_iff.1 h1
 obtain ⟨l2, e2⟩ := List.getElem?_eq_some_iff.1 h2
 exact (List.getElem_inj h).1 (e1.trans e2.symm)
theorem cnP_law {ρ0 : RK → Option RI} : ∀ (ps : List (Nat × Ty)) (t : Ty), t.tree = true → ∀ {u : PlDen ps} {v : t.den} {x : Value} {ris : List RI},
  (∃ ρr r1 rp, (∀ p i, inPl p ps = false → ρr (.pl p i) = ρ0 (.pl p i)) ∧ ris = r1 ++ [rp] ∧ TRepV F w ρr t v x r1 ∧ PRep F w ρr ps u rp) →
  ∃ ρr r1 rp, (∀ p i, inPl p ps = false → ρr (.pl p i) = ρ0 (.pl p i)) ∧ ris = r1 ++ [rp] ∧ TRepV F w ρr t (cnP ps t u v).2 x r1 ∧ PRep F w ρr ps (cnP ps t u v).1 rp
 | [], _, _, _, _, _, _, h => h
 | _ :: _ :: _, _, _, _, _, _, _, h => h
 | [(p, T)], t, ht, u, v, x, ris, h => by
  simp only [cnP]
  cases hc : (T.pls.isEmpty && (rnOk t && cnOk u.1 (hsV p t v))) with
  | false => exact h
  | true =>
   simp only [cond_true]
   simp only [Bool.and_eq_true, cnOk] at hc
   obtain ⟨hT, hr, hnd, hall⟩ := hc
   have hT := List.isEmpty_iff.1 hT
   have hnd := noDup_nodup hnd
   generalize hL : hsV p t v = L at *
   obtain ⟨ρr, r1, rp, h1, h2, h3, h4⟩ := h
   let ρn : RK → Option RI := fun k => match k with
    | .reg n => ρr (.reg n)
    | .pl q i => if q = p then (match L[i]? with | some j => ρr (.pl p j) | none => none) else ρr (.pl q i)
   have e1 : ∀ i j, L[i]? = some j → ρn (.pl p i) = ρr (.pl p j) := fun i j h => by simp only [ρn, if_true, h]
   have e0 : ∀ i, L[i]? = none → ρn (.pl p i) = none := fun i h => by simp only [ρn, if_true, h]
   have eo : ∀ q, q ≠ p → ∀ i, ρn (.pl q i) = ρr (.pl q i) := fun q hq i => by simp only [ρn, if_neg hq]
   have hcont : ∀ {q i c}, pCont [(p, T)] (L.map (poolAt u.1), ()) q i = some c → q = p ∧ ∃ j xs, L[i]? = some j ∧ u.1[j]? = some (some xs) ∧ c = .arr ⟨T, xs⟩ := fun {q i c} hq => by
    simp only [pCont] at hq
    cases hb : Nat.beq p q with
    | false => rw [hb] at hq; cases hq
    | true =>
     rw [hb] at hq
     refine ⟨(Nat.eq_of_beq_eq_true hb).symm, ?_⟩
     simp only [cond_true, PL.cont, List.getElem?_map] at hq
     cases hl : L[i]? with
     | none => rw [hl] at hq; cases hq
     | some j =>
      rw [hl] at hq
      cases hx : poolAt u.1 j with
      | none => simp [hx] at hq
      | some xs =>
       simp only [Option.map_some, hx] at hq
       cases hq
       exact ⟨j, xs, rfl, poolAt_some.1 hx, rfl⟩
   have hold : ∀ {j xs}, u.1[j]? = some (some xs) → pCont [(p, T)] u p j = some (.arr ⟨T, xs⟩) := fun {j xs} hx => by
    simp only [pCont, Nat.beq_refl, cond_true, PL.cont, hx]
   have hcr : ∀ {ri : RI} {xs : List T.den}, CRep F w ρr ri (.arr ⟨T, xs⟩) → CRep F w ρn ri (.arr ⟨T, xs⟩) := fun hh => ORep.holdP (ob := ⟨T, _⟩) (fun q hq => by rw [show (⟨T, _⟩ : OB).t = T from rfl, hT] at hq; cases hq) hh
   refine ⟨ρn, r1, rp, fun q i hq => ?_, h2, rnV_V (fun q hq i y hy => by rw [eo q hq]; exact hy) hr (fun i hi y hy => ?_) h3, ⟨h4.A, fun q i c hq => ?_, fun q i q' i' c c' ri ri' b hq hq' g g' => ?_, fun b hb => ?_, fun q n i hn hi => ?_⟩⟩
   ·have hne : q ≠ p := fun e => by subst e; simp [inPl, Nat.beq_refl] at hq
    rw [eo q hne]; exact h1 q i hq
   ·rw [hL] at hi
    rw [e1 _ _ (idxOf_get hi)]; exact hy
   ·obtain ⟨rfl, j, xs, g1, g2, rfl⟩ := hcont hq
    obtain ⟨ri, k1, k2, k3⟩ := h4.obj _ j _ (hold g2)
    exact ⟨ri, by rw [e1 _ _ g1]; exact k1, hcr k2, k3⟩
   ·obtain ⟨rfl, j, xs, g1, g2, rfl⟩ := hcont hq
    obtain ⟨rfl, j', xs', g1', g2', rfl⟩ := hcont hq'
    rw [e1 _ _ g1] at g
    rw [e1 _ _ g1'] at g'
    intro k k'
    obtain ⟨_, rfl⟩ := h4.sep _ j _ j' _ _ ri ri' b (hold g2) (hold g2') g g' k k'
    exact ⟨rfl, nodup_get hnd g1 g1'⟩
   ·obtain ⟨q, i, c, ri, g1, g2, g3⟩ := h4.sub b hb
    simp only [pCont] at g1
    cases hbq : Nat.beq p q with
    | false => rw [hbq] at g1; cases g1
    | true =>
     have := Nat.eq_of_beq_eq_true hbq
     subst this
     rw [hbq] at g1
     simp only [cond_true, PL.cont] at g1
     cases hx : u.1[i]? with
     | none => rw [hx] at g1; cases g1
     | some o =>
      cases o with
      | none => rw [hx] at g1; cases g1
      | some xs =>
       rw [hx] at g1
       cases g1
       have hlt : i < u.1.length := (List.getElem?_eq_some_iff.1 hx).1
       have := List.all_eq_true.1 hall i (List.mem_range.2 hlt)
       simp only [liveAt, hx, Bool.not_true, Bool.false_or, List.contains_eq_mem, decide_eq_true_eq] at this
       have hi := idxOf_get this
       refine ⟨p, L.idxOf i, .arr ⟨T, xs⟩, ri, ?_, by rw [e1 _ _ hi]; exact g2, g3⟩
       simp only [pCont, Nat.beq_refl, cond_true, PL.cont, List.getElem?_map, hi, Option.map_some, poolAt_some.2 hx]
   ·simp only [pLen] at hn
    cases hb : Nat.beq p q with
    | false => rw [hb] at hn; cases hn
    | true =>
     have := Nat.eq_of_beq_eq_true hb
     subst this
     rw [hb] at hn
     simp only [cond_true, Option.some.injEq, List.length_map] at hn
     exact e0 i (List.getElem?_eq_none (by omega))
end Go.Vu
