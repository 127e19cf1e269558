/- Value semantics, part 18: what a call does. -/
import Derived.Test.YtfklhbmicfammaaVsCtr
set_option linter.unusedVariables false
namespace Go.Vs
open Go

variable {P : Program} {tb : Tab} {R : Type} {F0 M F : Nat → Prop} {W0 w w' : World} {ρ : Nat → Option RI} {s : St} {a : Act} {m : Nat → Nat → Option Value} {id : Nat}

theorem RepV1.pure {ρ' : Nat → Option RI} {t : Ty} {v : t.den} {x : Value} (hp : t.pure = true) (h : RepV1 F m ρ t v x) : RepV1 F m ρ' t v x := by
  unfold RepV1 at *
  split at h
  · rw [if_pos ‹_›]; obtain ⟨cs, e, h⟩ := h; exact ⟨cs, e, Rep.pure t v cs hp h⟩
  · rw [if_neg ‹_›]; exact ⟨h.1, Rep.pure t v _ hp h.2⟩

theorem ORep.pure0 {ρ' : Nat → Option RI} {ri : RI} {ob : OB} (h : ORep F w ρ ri ob) : ORep F w ρ' ri ob :=
  ⟨h.n, h.sz, h.le, h.pure, h.none, h.raw, h.block, fun p hp i x hi => by
    obtain ⟨ds, h1, h2⟩ := h.cells p hp i x hi
    exact ⟨ds, h1, Rep.pure _ _ _ h.pure h2⟩⟩

theorem ORep.flat0 {F' : Nat → Prop} {ri : RI} {ob : OB} (hf : ob.t.flat = true) (h : ORep F w ρ ri ob) : ORep F' w ρ ri ob :=
  ⟨h.n, h.sz, h.le, h.pure, h.none, h.raw, h.block, fun p hp i x hi => by
    obtain ⟨ds, h1, h2⟩ := h.cells p hp i x hi
    exact ⟨ds, h1, Rep.flat _ _ _ hf h2⟩⟩

theorem coe_st {s : Ty} {v : s.den} {d : Ty} {v' : d.den} (h : coe s v d = some v') : isSt d = isSt s := by
  unfold coe at h
  split at h
  · rfl
  · rfl
  · rfl
  · rfl
  · rfl
  · split at h
    · rename_i e; rw [e]
    · cases h

/- - which regions a call is handed whole -/
def Corr (s : St) (ρ : Nat → Option RI) : List (Nat × Bool) → List RI → Prop
  | [], ris => ris = []
  | (q, _) :: mo, ris => ∃ ri rs ob, ris = ri :: rs ∧ ρ q = some ri ∧ s.obj q = some ob ∧ Corr s ρ mo rs

theorem coe_lawV {t : Ty} {v : t.den} {d : Ty} {v' : d.den} {x : Value} (hc : coe t v d = some v') (hp : d.pure = true) (ha : isAny t = false) (hx : RepV F m ρ t v x) : RepV1 F m ρ d v' x := by
  have hnt : ∀ u, t ≠ .tup u := by
    intro u e
    subst e
    simp only [coe] at hc
    split at hc
    · rename_i e; subst e; simp [Ty.pure] at hp
    · cases hc
  have h1 := RepV1.of hx ha hnt
  have hst := coe_st hc
  unfold RepV1 at *
  split at h1
  · rename_i hs
    rw [if_pos (by rw [hst]; exact hs)]
    obtain ⟨cs, e, h1⟩ := h1
    exact ⟨cs, e, coe_law _ _ _ _ _ hc h1⟩
  · rename_i hs
    rw [if_neg (by rw [hst]; exact hs)]
    exact ⟨h1.1, coe_law _ _ _ _ _ hc h1.2⟩

theorem mutRI_mem : ∀ (ps : List PM) (ris : List RI) (ri : RI), mutRI ps ris = some ri → ri ∈ ris
  | [], _, _, h => by simp [mutRI] at h
  | .ro _ :: ps, ris, ri, h => mutRI_mem ps ris ri (by simpa [mutRI] using h)
  | .mut _ :: ps, [], ri, h => by simp [mutRI] at h
  | .mut _ :: ps, r :: ris, ri, h => by simp only [mutRI, Option.some.injEq] at h; subst h; simp
  | .mutp _ :: ps, [], ri, h => by simp [mutRI] at h
  | .mutp _ :: ps, r :: ris, ri, h => by simp only [mutRI, Option.some.injEq] at h; subst h; simp
  | .own _ :: ps, [], ri, h => by simp [mutRI] at h
  | .own _ :: ps, r :: ris, ri, h => List.mem_cons_of_mem _ (mutRI_mem ps ris ri (by simpa [mutRI] using h))
theorem ownRI_mem : ∀ (ps : List PM) (ris : List RI) (ri : RI), ri ∈ ownRI ps ris → ri ∈ ris
  | [], _, _, h => by simp [ownRI] at h
  | .ro _ :: ps, ris, ri, h => ownRI_mem ps ris ri (by simpa [ownRI] using h)
  | .mut _ :: ps, [], ri, h => by simp [ownRI] at h
  | .mut _ :: ps, r :: ris, ri, h => List.mem_cons_of_mem _ (ownRI_mem ps ris ri (by simpa [ownRI] using h))
  | .mutp _ :: ps, [], ri, h => by simp [ownRI] at h
  | .mutp _ :: ps, r :: ris, ri, h => List.mem_cons_of_mem _ (ownRI_mem ps ris ri (by simpa [ownRI] using h))
  | .own _ :: ps, [], ri, h => by simp [ownRI] at h
  | .own _ :: ps, r :: ris, ri, h => by
    simp only [ownRI, List.mem_cons] at h
    rcases h with h | h
    · subst h; simp
    · exact List.mem_cons_of_mem _ (ownRI_mem ps ris ri h)
theorem Blk.own {ps : List PM} {ris : List RI} {b : Nat} (h : Blk (ownRI ps ris) b) : Blk ris b := let ⟨ri, h1, h2⟩ := h; ⟨ri, ownRI_mem ps ris ri h1, h2⟩
theorem apart_mut_own : ∀ (ps : List PM) (ris : List RI) (ri : RI) (p : Nat × Nat), Apart ris → mutRI ps ris = some ri → ri.A = some p → ¬ Blk (ownRI ps ris) p.1
  | [], _, _, _, _, h, _ => by simp [mutRI] at h
  | .ro _ :: ps, ris, ri, p, ha, h, hp => by simpa [ownRI] using apart_mut_own ps ris ri p ha (by simpa [mutRI] using h) hp
  | .mut _ :: ps, [], ri, p, ha, h, hp => by simp [mutRI] at h
  | .mut _ :: ps, r :: ris, ri, p, ha, h, hp => by
    simp only [mutRI, Option.some.injEq] at h
    subst h
    intro hb
    exact ha.1 p hp (Blk.own (by simpa [ownRI] using hb))
  | .mutp _ :: ps, [], ri, p, ha, h, hp => by simp [mutRI] at h
  | .mutp _ :: ps, r :: ris, ri, p, ha, h, hp => by
    simp only [mutRI, Option.some.injEq] at h
    subst h
    intro hb
    exact ha.1 p hp (Blk.own (by simpa [ownRI] using hb))
  | .own _ :: ps, [], ri, p, ha, h, hp => by simp [mutRI] at h
  | .own _ :: ps, r :: ris, ri, p, ha, h, hp => by
    have hm : mutRI ps ris = some ri := by simpa [mutRI] using h
    intro hb
    obtain ⟨ri', h1, p', h2, h3⟩ := hb
    simp only [ownRI, List.mem_cons] at h1
    rcases h1 with h1 | h1
    · subst h1
      exact ha.1 p' h2 ⟨ri, mutRI_mem _ _ _ hm, p, hp, h3.symm⟩
    · exact apart_mut_own ps ris ri p ha.2 hm hp ⟨ri', h1, p', h2, h3⟩

theorem args_law (h : RelAt F0 M W0 F ρ s a w) {Fc : Nat → Prop} (hF : ∀ b, F b → Fc b) : ∀ (ps : List PM) (xs : List TV) (vals : List Value) {v : PDen ps} {al : List Nat} {mo : List (Nat × Bool)},
    argsD s ps xs = some (v, al, mo) → argsB s ps xs = true → RepL F (mem w) ρ xs vals → (∀ q ∈ al, ∀ ob ri p, s.obj q = some ob → ρ q = some ri → ri.A = some p → Fc p.1) →
    ∃ ris, ArgsRep Fc w ps v vals ris ∧ Corr s ρ mo ris ∧ (∀ q ∈ al, ∃ ob, s.obj q = some ob) ∧
      (∀ t, mutTy ps = some t → ∃ ri ob, mutRI ps ris = some ri ∧ ρ (mutReg mo) = some ri ∧ s.obj (mutReg mo) = some ob)
  | [], [], vals, v, al, mo, he, hB, hr, hal => by
    simp only [argsD] at he
    cases he
    exact ⟨[], ⟨hr, rfl⟩, rfl, fun q hq => by simp at hq, fun t ht => by simp [mutTy] at ht⟩
  | [], _ :: _, vals, v, al, mo, he, hB, hr, hal => by simp [argsD] at he
  | .ro t :: ps, [], vals, v, al, mo, he, hB, hr, hal => by simp [argsD] at he
  | .mut t :: ps, [], vals, v, al, mo, he, hB, hr, hal => by simp [argsD] at he
  | .own t :: ps, [], vals, v, al, mo, he, hB, hr, hal => by simp [argsD] at he
  | .mutp t :: ps, [], vals, v, al, mo, he, hB, hr, hal => by simp [argsD] at he
  | .ro t :: ps, x :: xs, vals, v, al, mo, he, hB, hr, hal => by
    obtain ⟨vx, r, e1, hx, hx1, hr'⟩ := hr
    subst e1
    simp only [argsD] at he
    cases hrec : argsD s ps xs with
    | none => simp [hrec] at he
    | some q =>
      obtain ⟨rv, al', mo'⟩ := q
      simp only [hrec] at he
      split at he
      · rename_i hpt
        simp only [Bool.and_eq_true, beq_iff_eq] at hpt
        obtain ⟨hp, hst⟩ := hpt
        have fin : ∀ (u : t.den) (al2 : List Nat), some ((u, rv), al2, mo') = some (v, al, mo) → (∀ q ∈ al', q ∈ al2) → (∀ q ∈ al2, q ∈ al' ∨ ∃ ob, s.obj q = some ob) → RepV1 Fc (mem w) ρ t u vx →
            ∃ ris, ArgsRep Fc w (.ro t :: ps) v (vx :: r) ris ∧ Corr s ρ mo ris ∧ (∀ q ∈ al, ∃ ob, s.obj q = some ob) ∧
              (∀ t', mutTy (.ro t :: ps) = some t' → ∃ ri ob, mutRI (.ro t :: ps) ris = some ri ∧ ρ (mutReg mo) = some ri ∧ s.obj (mutReg mo) = some ob) := by
          intro u al2 e hsub hsub2 hrep
          cases e
          obtain ⟨ris, g1, g2, g3, g4⟩ := args_law h hF ps xs r hrec (by simpa [argsB] using hB) hr' (fun q hq => hal q (hsub q hq))
          exact ⟨ris, ⟨vx, r, rfl, hp, RepV1.pure hp hrep, g1⟩, g2, fun q hq => (hsub2 q hq).elim (g3 q) (fun h => h), fun t' ht' => g4 t' (by simpa [mutTy] using ht')⟩
        split at he
        · rename_i u hu
          exact fin u al' he (fun q hq => hq) (fun q hq => .inl hq) (RepV1.mono hF (fun _ _ _ _ h => h) (fun _ _ h => h) _ _ _ (coe_lawV hu hp hx1 hx))
        · obtain ⟨xt, xv⟩ := x
          cases xt <;> simp only [reduceCtorEq] at he
          · rename_i q _
            cases hob : s.obj q with
            | none => simp [hob] at he
            | some ob =>
              simp only [hob] at he
              split at he
              · rename_i u hu
                have halq : ∀ ri p, ρ q = some ri → ri.A = some p → Fc p.1 := fun ri p h1 h2 => hal q (by cases he; simp) ob ri p hob h1 h2
                obtain ⟨ri, h1, ho⟩ := h.obj q ob hob
                obtain ⟨_, ri', h1', e⟩ := hx
                rw [h1] at h1'; cases h1'
                obtain rfl : vx = _ := by simpa using e
                exact fin u (q :: al') he (fun q hq => by simp [hq]) (fun q' hq => by
                  rcases List.mem_cons.1 hq with rfl | hq
                  · exact .inr ⟨ob, hob⟩
                  · exact .inl hq) (coe_lawV (t := .slice ob.t) hu hp rfl (RepV.of (ho.slice hF (fun p hp => halq ri p h1 hp))))
              · cases he
          · rename_i q _
            cases hob : s.obj q with
            | none => simp [hob] at he
            | some ob =>
              simp only [hob] at he
              split at he
              · rename_i u hu
                have halq : ∀ ri p, ρ q = some ri → ri.A = some p → Fc p.1 := fun ri p h1 h2 => hal q (by cases he; simp) ob ri p hob h1 h2
                obtain ⟨ri, h1, ho⟩ := h.obj q ob hob
                exact fin u (q :: al') he (fun q hq => by simp [hq]) (fun q' hq => by
                  rcases List.mem_cons.1 hq with rfl | hq
                  · exact .inr ⟨ob, hob⟩
                  · exact .inl hq) (coe_lawV (t := .slice ob.t) hu hp rfl (RepV.of (ho.part h1 hF (fun p hp => halq ri p h1 hp) hx)))
              · cases he
      · cases he
  | .mut t :: ps, x :: xs, vals, v, al, mo, he, hB, hr, hal => by
    obtain ⟨vx, r, e1, hx, hx1, hr'⟩ := hr
    subst e1
    simp only [argsD] at he
    cases hrec : argsD s ps xs with
    | none => simp [hrec] at he
    | some q =>
      obtain ⟨rv, al', mo'⟩ := q
      simp only [hrec] at he
      obtain ⟨xt, xv⟩ := x
      cases xt <;> simp only [reduceCtorEq] at he
      rename_i q
      cases hob : s.obj q with
      | none => simp [hob] at he
      | some ob =>
        simp only [hob] at he
        split at he
        · rename_i ht
          obtain ⟨obt, obx⟩ := ob
          simp only at ht
          subst ht
          cases he
          obtain ⟨ri, h1, ho⟩ := h.obj q _ hob
          obtain ⟨_, ri', h1', e⟩ := hx
          rw [h1] at h1'; cases h1'
          obtain rfl : vx = _ := by simpa using e
          obtain ⟨ris, g1, g2, g3, g4⟩ := args_law h hF ps xs r hrec (by simpa [argsB] using hB) hr' hal
          exact ⟨ri :: ris, ⟨ri, ris, r, rfl, rfl, (ho.mono hF (fun _ _ h => h)).pure0, g1⟩, ⟨ri, ris, _, rfl, h1, hob, g2⟩, g3, fun t' ht' => ⟨ri, _, rfl, h1, hob⟩⟩
        · cases he
  | .own t :: ps, x :: xs, vals, v, al, mo, he, hB, hr, hal => by
    obtain ⟨vx, r, e1, hx, hx1, hr'⟩ := hr
    subst e1
    simp only [argsD] at he
    cases hrec : argsD s ps xs with
    | none => simp [hrec] at he
    | some q =>
      obtain ⟨rv, al', mo'⟩ := q
      simp only [hrec] at he
      obtain ⟨xt, xv⟩ := x
      cases xt <;> simp only [reduceCtorEq] at he
      rename_i q
      cases hob : s.obj q with
      | none => simp [hob] at he
      | some ob =>
        simp only [hob] at he
        split at he
        · rename_i ht
          obtain ⟨obt, obx⟩ := ob
          simp only at ht
          subst ht
          cases he
          obtain ⟨ri, h1, ho⟩ := h.obj q _ hob
          obtain ⟨_, ri', h1', e⟩ := hx
          rw [h1] at h1'; cases h1'
          obtain rfl : vx = _ := by simpa using e
          obtain ⟨ris, g1, g2, g3, g4⟩ := args_law h hF ps xs r hrec (by simpa [argsB] using hB) hr' hal
          exact ⟨ri :: ris, ⟨ri, ris, r, rfl, rfl, (ho.mono hF (fun _ _ h => h)).pure0, g1⟩, ⟨ri, ris, _, rfl, h1, hob, g2⟩, g3, fun t' ht' => by
            obtain ⟨ri2, ob2, q1, q2, q3⟩ := g4 t' (by simpa [mutTy] using ht')
            exact ⟨ri2, ob2, by simpa [mutRI] using q1, by simpa [mutReg] using q2, by simpa [mutReg] using q3⟩⟩
        · cases he
  | .mutp t :: ps, x :: xs, vals, v, al, mo, he, hB, hr, hal => by
    obtain ⟨vx, r, e1, hx, hx1, hr'⟩ := hr
    subst e1
    simp only [argsB, Bool.and_eq_true] at hB
    simp only [argsD] at he
    cases hrec : argsD s ps xs with
    | none => simp [hrec] at he
    | some q =>
      obtain ⟨rv, al', mo'⟩ := q
      simp only [hrec] at he
      split at he
      · rename_i q ix
        cases hob : s.obj q with
        | none => simp [hob] at he
        | some ob =>
          simp only [hob] at he
          split at he
          · rename_i ht
            obtain ⟨obt, obx⟩ := ob
            simp only at ht
            subst ht
            cases he
            simp only [argB, hob, onlyB, Bool.and_eq_true, decide_eq_true_eq] at hB
            obtain ⟨⟨hb1, hb2⟩, hB⟩ := hB
            subst hb2
            obtain ⟨ri, h1, ho⟩ := h.obj q _ hob
            obtain ⟨_, ri', p, h1', hA, e⟩ := hx
            rw [h1] at h1'; cases h1'
            obtain rfl : vx = .pointer (some (adr p)) := by simpa [adr] using e
            obtain ⟨ris, g1, g2, g3, g4⟩ := args_law h hF ps xs r hrec hB hr' hal
            exact ⟨ri :: ris, ⟨ri, ris, r, p, rfl, rfl, hA, by rw [ho.n]; exact hb1, (ho.mono hF (fun _ _ h => h)).pure0, g1⟩, ⟨ri, ris, _, rfl, h1, hob, g2⟩, g3, fun t' ht' => ⟨ri, _, rfl, h1, hob⟩⟩
          · cases he
      · cases he

theorem kills_law : ∀ (mo : List (Nat × Bool)) {s : St}, RelAt F0 M W0 F ρ s a w → RelAt F0 M W0 F ρ (kills s mo) a w
  | [], _, h => h
  | (r, _) :: mo, s, h => kills_law mo (h.kill r)

theorem setObj_objs {s : St} {r q : Nat} {o : ObS} : (s.setObj r o).objs[q]? = if r = q then (if r < s.objs.length then some o else none) else s.objs[q]? := by
  simp [St.setObj, List.getElem?_set]

theorem kills_obj : ∀ (mo : List (Nat × Bool)) {s : St} {q : Nat} {ob : OB}, (kills s mo).obj q = some ob → s.obj q = some ob ∧ q ∉ mo.map (·.1)
  | [], s, q, ob, h => ⟨h, by simp⟩
  | (r, b) :: mo, s, q, ob, h => by
    obtain ⟨h1, h2⟩ := kills_obj mo (s := s.setObj r .dead) h
    by_cases e : r = q
    · subst e
      rw [St.obj_iff, setObj_objs] at h1
      simp at h1
    · rw [St.obj_setObj_ne e] at h1
      exact ⟨h1, by simp [h2, Ne.symm e]⟩

theorem kills_same : ∀ (mo : List (Nat × Bool)) {s : St} {q : Nat}, q ∉ mo.map (·.1) → (kills s mo).objs[q]? = s.objs[q]?
  | [], _, _, _ => rfl
  | (r, b) :: mo, s, q, h => by
    simp only [List.map_cons, List.mem_cons, not_or] at h
    rw [kills, kills_same mo h.2, setObj_objs, if_neg (fun e => h.1 e.symm)]

theorem kills_dead : ∀ (mo : List (Nat × Bool)) {s : St} {q : Nat}, q < s.objs.length → q ∈ mo.map (·.1) → (kills s mo).objs[q]? = some .dead
  | [], _, _, _, h => by simp at h
  | (r, b) :: mo, s, q, hl, h => by
    by_cases hm : q ∈ mo.map (·.1)
    · exact kills_dead mo (s := s.setObj r .dead) (by simpa [St.setObj] using hl) hm
    · simp only [List.map_cons, List.mem_cons, hm, or_false] at h
      subst h
      rw [kills, kills_same mo hm, setObj_objs, if_pos rfl, if_pos hl]

theorem frzs_law : ∀ (al : List Nat) {s : St} {F : Nat → Prop}, RelAt F0 M W0 F ρ s a w → ∃ F', RelAt F0 M W0 F' ρ (frzs s al) a w ∧ (∀ b, F b → F' b) ∧
    (∀ b, F' b → F b ∨ ∃ q ∈ al, ∃ ob ri p, s.obj q = some ob ∧ ρ q = some ri ∧ ri.A = some p ∧ p.1 = b) ∧
    (∀ q ∈ al, ∀ ob ri p, s.obj q = some ob → ρ q = some ri → ri.A = some p → F' p.1) ∧ (∀ q ob, (frzs s al).obj q = some ob → s.obj q = some ob) ∧ (∀ q : Nat, s.objs[q]? = some ObS.dead → (frzs s al).objs[q]? = some ObS.dead) ∧
    (∀ q : Nat, s.objs[q]? = some ObS.fresh → (frzs s al).objs[q]? = some ObS.fresh)
  | [], s, F, h => ⟨F, h, fun _ h => h, fun b hb => .inl hb, fun q hq => by simp at hq, fun _ _ h => h, fun _ h => h, fun _ h => h⟩
  | r :: al, s, F, h => by
    simp only [frzs]
    cases hob : s.obj r with
    | none =>
      obtain ⟨F', h1, h2, h3, h4, h5, h6, h7⟩ := frzs_law al h
      refine ⟨F', h1, h2, fun b hb => ?_, fun q hq ob ri p g1 g2 g3 => ?_, h5, h6, h7⟩
      · rcases h3 b hb with h8 | ⟨q, hq, h8⟩
        · exact .inl h8
        · exact .inr ⟨q, by simp [hq], h8⟩
      · rcases List.mem_cons.1 hq with rfl | hq
        · rw [hob] at g1; cases g1
        · exact h4 q hq ob ri p g1 g2 g3
    | some ob =>
      obtain ⟨F1, ri, g1, g2, g3, g4, g5, g6⟩ := frz_law' h hob
      have hobj : ∀ q ob', (s.frz r ob).obj q = some ob' → s.obj q = some ob' := fun q ob' hq => by
        rw [St.obj_iff] at hq ⊢
        simp only [St.frz, List.getElem?_set] at hq
        split at hq
        · split at hq <;> cases hq
        · exact hq
      have hobj2 : ∀ q ob', q ≠ r → s.obj q = some ob' → (s.frz r ob).obj q = some ob' := fun q ob' hn hq => by
        rw [St.obj_iff] at hq ⊢
        simp only [St.frz, List.getElem?_set, if_neg (Ne.symm hn)]
        exact hq
      have hrl := St.obj_lt hob
      obtain ⟨F', h1, h2, h3, h4, h5, h6, h7⟩ := frzs_law al g5
      refine ⟨F', h1, fun b hb => h2 b (g1 b hb), fun b hb => ?_, fun q hq ob' ri' p e1 e2 e3 => ?_, fun q ob' hq => hobj q ob' (h5 q ob' hq), fun q hq => h6 q ?_, fun q hq => h7 q ?_⟩
      · rcases h3 b hb with h8 | ⟨q, hq, ob', ri', p, e1, e2⟩
        · rcases g6 b h8 with h9 | ⟨p, e1, e2⟩
          · exact .inl h9
          · exact .inr ⟨r, by simp, ob, ri, p, hob, g2, e1, e2⟩
        · exact .inr ⟨q, by simp [hq], ob', ri', p, hobj q ob' e1, e2⟩
      · by_cases hqr : q = r
        · subst hqr
          rw [g2] at e2; cases e2
          exact h2 _ (g4 p e3)
        · rcases List.mem_cons.1 hq with rfl | hq
          · exact absurd rfl hqr
          · exact h4 q hq ob' ri' p (hobj2 q ob' hqr e1) e2 e3
      · simp only [St.frz, List.getElem?_set]
        split
        · first | rfl | rw [if_pos hrl]
        · exact hq
      · simp only [St.frz, List.getElem?_set]
        rw [if_neg (fun e => by subst e; simp [St.obj, hq] at hob)]
        exact hq

/- - more blocks are held as they are from now on -/
theorem RelAt.widen (h : RelAt F0 M W0 F ρ s a w) (G : Nat → Prop) (hG : ∀ b, G b → b < w.heap.size ∧ (∀ r ob ri p, s.obj r = some ob → ρ r = some ri → ri.A = some p → p.1 ≠ b) ∧ (W0.heap.size ≤ b ∨ M b)) :
    RelAt F0 M W0 (fun k => F k ∨ G k) ρ s a w := by
  refine ⟨h.defers, fun i x hi => ?_, fun r ob hr => ?_, h.sep, fun r ob ri p hr h1 hp => ?_, h.fresh, fun k hk => ?_, fun k hk => .inl (h.base k hk), fun k hk => ?_, h.kept⟩
  · obtain ⟨val, h1, h2⟩ := h.slot i x hi
    exact ⟨val, h1, RepV.mono (fun _ h => .inl h) (fun _ _ _ _ h => h) (fun _ _ h => h) _ _ _ h2⟩
  · obtain ⟨ri, h1, h2⟩ := h.obj r ob hr
    exact ⟨ri, h1, h2.mono (fun _ h => .inl h) (fun _ _ h => h)⟩
  · obtain ⟨h2, h3⟩ := h.own r ob ri p hr h1 hp
    exact ⟨fun hk => hk.elim h2 (fun hg => (hG _ hg).2.1 r ob ri p hr h1 hp rfl), h3⟩
  · rcases hk with hk | hk
    · exact h.lt k hk
    · exact (hG k hk).1
  · rcases hk with hk | hk
    · exact h.frm k hk
    · exact .inr (hG k hk).2.2

theorem RM.flatRep {F' G : Nat → Prop} {t : Ty} {v : t.den} {x : Value} (hG : (∀ b, G b → F' b) ∨ t.flat = true) (hp : t.pure = true) (h : RepV1 G (mem w) ρ0 t v x) : RepV1 F' (mem w) ρ t v x := by
  rcases hG with hG | hf
  · exact RepV1.pure hp (RepV1.mono hG (fun _ _ _ _ h => h) (fun _ _ h => h) _ _ _ h)
  · unfold RepV1 at *
    split at h
    · rw [if_pos ‹_›]; obtain ⟨cs, e, h⟩ := h; exact ⟨cs, e, Rep.flat t v cs hf h⟩
    · rw [if_neg ‹_›]; exact ⟨h.1, Rep.flat t v _ hf h.2⟩

theorem ORep.flatRep {F' G : Nat → Prop} {ri : RI} {ob : OB} (hG : (∀ b, G b → F' b) ∨ ob.t.flat = true) (h : ORep G w ρ0 ri ob) : ORep F' w ρ ri ob := by
  rcases hG with hG | hf
  · exact (h.mono hG (fun _ _ h => h)).pure0
  · exact (ORep.flat0 hf h).pure0

/- - what results are in the caller's words -/
theorem res_list {G ok : Nat → Prop} : ∀ (rs : List RM) (v : RDen rs) (l : List Value), nOwn rs ≤ 1 → ResRepL G w ok rs v l →
    ∃ rio : Option RI, MutRep G w (ownTy rs) (ownV rs v) rio ∧ (ownTy rs = none → rio = none) ∧ (∀ ri p, rio = some ri → ri.A = some p → ok p.1) ∧
      ∀ (F' : Nat → Prop) (ρ : Nat → Option RI), ((∀ b, G b → F' b) ∨ rs.all RM.flat = true) → (∀ ri, rio = some ri → ρ id = some ri) → RepVs F' (mem w) ρ (resChain id rs) (resChainV id rs v) l
  | [], v, l, hn, h => ⟨none, trivial, fun _ => rfl, fun ri p e => (by cases e), fun F' ρ _ _ => h⟩
  | .val t :: rs, v, l, hn, h => by
    obtain ⟨x, l', e, ⟨hp, h1⟩, h2⟩ := h
    obtain ⟨rio, g1, g2, g3, g4⟩ := res_list rs v.2 l' (by simpa [nOwn] using hn) h2
    refine ⟨rio, g1, g2, g3, fun F' ρ hG hρ => ⟨x, l', e, RM.flatRep ?_ hp h1, g4 F' ρ ?_ hρ⟩⟩
    · exact hG.imp (fun h => h) (fun h => by simp only [List.all_cons, RM.flat, Bool.and_eq_true] at h; exact h.1)
    · exact hG.imp (fun h => h) (fun h => by simp only [List.all_cons, Bool.and_eq_true] at h; exact h.2)
  | .own t :: rs, v, l, hn, h => by
    obtain ⟨x, l', e, ⟨ri, e2, h1, h3⟩, h2⟩ := h
    have hn0 : nOwn rs = 0 := by simp only [nOwn] at hn; omega
    obtain ⟨rio, g1, g2, g3, g4⟩ := res_list rs v.2 l' (by omega) h2
    have hnone : ownTy rs = none := noOwn rs hn0
    refine ⟨some ri, ⟨ri, rfl, h1⟩, fun h => (by simp [ownTy] at h), fun ri' p e hp => by cases e; exact h3 p hp, fun F' ρ hG hρ => ⟨x, l', e, ?_, g4 F' ρ ?_ (fun ri' e' => by rw [g2 hnone] at e'; cases e')⟩⟩
    · exact ⟨by rw [e2]; rfl, ri, hρ ri rfl, by rw [e2]⟩
    · exact hG.imp (fun h => h) (fun h => by simp only [List.all_cons, Bool.and_eq_true] at h; exact h.2)
 where
  noOwn : ∀ (rs : List RM), nOwn rs = 0 → ownTy rs = none
    | [], _ => rfl
    | .val _ :: rs, h => noOwn rs (by simpa [nOwn] using h)
    | .own _ :: rs, h => by simp [nOwn] at h

theorem res_law {G ok : Nat → Prop} (rs : List RM) (v : RDen rs) (x : Value) (hn : nOwn rs ≤ 1) (h : ResRep G w ok rs v x) :
    ∃ rio : Option RI, MutRep G w (ownTy rs) (ownV rs v) rio ∧ (ownTy rs = none → rio = none) ∧ (∀ ri p, rio = some ri → ri.A = some p → ok p.1) ∧
      ∀ (F' : Nat → Prop) (ρ : Nat → Option RI), ((∀ b, G b → F' b) ∨ rs.all RM.flat = true) → (∀ ri, rio = some ri → ρ id = some ri) → RepV F' (mem w) ρ (resT id rs) (resV id rs v) x := by
  match rs, v, hn, h with
  | [], v, hn, h => exact ⟨none, trivial, fun _ => rfl, fun ri p e => (by cases e), fun F' ρ _ _ => trivial⟩
  | [r], v, hn, h =>
    obtain ⟨rio, g1, g2, g3, g4⟩ := res_list (id := id) [r] v [x] hn ⟨x, [], rfl, h, rfl⟩
    refine ⟨rio, g1, g2, g3, fun F' ρ hG hρ => ?_⟩
    obtain ⟨y, l, e, h1, _⟩ := g4 F' ρ hG hρ
    cases e
    exact RepV.of h1
  | r :: q :: rs, v, hn, h =>
    obtain ⟨l, e, h⟩ := h
    obtain ⟨rio, g1, g2, g3, g4⟩ := res_list (id := id) (r :: q :: rs) v l hn h
    exact ⟨rio, g1, g2, g3, fun F' ρ hG hρ => ⟨l, e, g4 F' ρ hG hρ⟩⟩

end Go.Vs
