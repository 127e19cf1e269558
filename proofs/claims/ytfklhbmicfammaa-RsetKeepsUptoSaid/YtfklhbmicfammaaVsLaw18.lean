/- Value semantics, part 24: what a loop hands on. -/
import Derived.Test.YtfklhbmicfammaaVsLaw17
set_option linter.unusedVariables false
namespace Go.Vs
open Go

variable {P : Program} {tb : Tab} {Γ : Nat → List Ctr} {R : Type} {F0 M F F' : Nat → Prop} {W0 w w' : World} {ρ ρ' : Nat → Option RI} {s s' : St} {a : Act}

theorem coe_notAny {t : Ty} {v : t.den} {d : Ty} {v' : d.den} (h : coe t v d = some v') (hp : d.pure = true) : isAny t = false := by
  cases t <;> try rfl
  cases d <;> simp [coe, Ty.pure] at h hp

/- - a region that is handed on -/
structure OwnBy (s : St) (a : Act) (w : World) (F : Nat → Prop) (ρ : Nat → Option RI) (slot : Nat) (t : Ty) (o : Option Nat × Bool) (xs : List t.den) (ri : RI) : Prop where
  rep : ORep F w ρ ri ⟨t, xs⟩
  whole : ∀ q, o = (some q, false) → ρ q = some ri
  part : ∀ q, o.1 = some q → ∃ ob rq, s.obj q = some ob ∧ ρ q = some rq ∧ ∀ p, ri.A = some p → ∃ p', rq.A = some p' ∧ p'.1 = p.1
  empty : o.1 = none → ri.A = none
  val : ∀ x val, s.get slot = some x → a.tmps[slot]? = some val → (∀ r k, x.t ≠ .oad r k) → val = ri.val

theorem owner_law (h : RelAt F0 M W0 F ρ s a w) {slot : Nat} {t : Ty} {o : Option Nat × Bool} {xs : List t.den} (ho : ownerOf s slot t = some (o, xs)) : ∃ ri, OwnBy s a w F ρ slot t o xs ri := by
  unfold ownerOf at ho
  split at ho
  · rename_i q u hx
    split at ho
    · rename_i ob hob
      split at ho
      · rename_i ht
        cases ho
        subst ht
        obtain ⟨ri, h1, h2⟩ := h.obj q ob hob
        refine ⟨ri, h2, fun q' e => (by cases e; exact h1), fun q' e => (by cases e; exact ⟨ob, ri, hob, h1, fun p hp => ⟨p, hp, rfl⟩⟩), fun e => (by cases e), fun x val e1 e2 _ => ?_⟩
        obtain ⟨val', e3, _, ri', e4, e5⟩ := h.slot slot _ hx
        rw [e2] at e3; cases e3
        rw [h1] at e4; cases e4
        simpa using e5
      · cases ho
    · cases ho
  · rename_i q v hx
    split at ho
    · rename_i ob hob
      split at ho
      · rename_i ht
        cases ho
        subst ht
        obtain ⟨ri, h1, h2⟩ := h.obj q ob hob
        obtain ⟨val', e3, _, ri', e4, A, c, e5, g1, g2, g3, g4⟩ := h.slot slot _ hx
        rw [h1] at e4; cases e4
        have e6 : val' = .slice A v.2 c := by simpa using e5
        have hsz := h2.sz
        have hn := h2.n
        refine ⟨⟨if c = 0 then none else ri.A.map fun p => (p.1, p.2 + v.1 * ri.sz), A, v.2, c, ri.sz⟩, ⟨?_, hsz, g1, h2.pure, ?_, ?_, ?_, ?_⟩, fun q' e => (by cases e), fun q' e => ?_, fun e => (by cases e), fun x val e1 e2 _ => ?_⟩
        · have g3' : v.1 + v.2 ≤ ri.n := g3
          have hn' : ri.n = ob.xs.length := hn
          show v.2 = ((ob.xs.drop v.1).take v.2).length
          simp only [List.length_take, List.length_drop]; omega
        · intro hA
          simp only at hA ⊢
          split at hA
          · assumption
          · rename_i hc
            rcases g4 with g4 | ⟨p, hp, _⟩
            · exact g4
            · rw [hp] at hA; cases hA
        · simp only
          split
          · left; assumption
          · rename_i hc
            right
            rcases g4 with g4 | ⟨p, hp, e⟩
            · exact absurd g4 hc
            · rw [hp, e]; rfl
        · intro p hA
          simp only at hA
          split at hA
          · cases hA
          · rcases g4 with g4 | ⟨p0, hp, e⟩
            · contradiction
            · rw [hp] at hA
              simp only [Option.map_some, Option.some.injEq] at hA
              subst hA
              obtain ⟨cells, el, b1, b2⟩ := h2.block p0 hp
              refine ⟨cells, el, b1, ?_⟩
              have : (v.1 + c) * ri.sz ≤ ri.c * ri.sz := Nat.mul_le_mul_right _ g2
              rw [Nat.add_mul] at this
              simp only
              omega
        · intro p hA i x hi
          simp only at hA
          split at hA
          · cases hA
          · rcases g4 with g4 | ⟨p0, hp, e⟩
            · contradiction
            · rw [hp] at hA
              simp only [Option.map_some, Option.some.injEq] at hA
              subst hA
              simp only [List.getElem?_take, List.getElem?_drop] at hi
              split at hi
              · obtain ⟨ds, d1, d2⟩ := h2.cells p0 hp (v.1 + i) x hi
                refine ⟨ds, ?_, d2⟩
                rwa [Nat.add_mul, ← Nat.add_assoc] at d1
              · cases hi
        · cases e
          refine ⟨ob, ri, hob, h1, fun p hA => ?_⟩
          simp only at hA
          split at hA
          · cases hA
          · rcases g4 with g4 | ⟨p0, hp, e⟩
            · contradiction
            · rw [hp] at hA
              simp only [Option.map_some, Option.some.injEq] at hA
              subst hA
              exact ⟨p0, hp, rfl⟩
        · rw [e2] at e3; cases e3
          exact e6
      · cases ho
    · cases ho
  · rename_i q k i hx
    split at ho
    · rename_i ob hob
      split at ho
      · rename_i ht
        cases ho
        subst ht
        obtain ⟨ri, h1, h2⟩ := h.obj q ob hob
        refine ⟨ri, h2, fun q' e => (by cases e; exact h1), fun q' e => (by cases e; exact ⟨ob, ri, hob, h1, fun p hp => ⟨p, hp, rfl⟩⟩), fun e => (by cases e), fun x val e1 e2 hno => ?_⟩
        rw [hx] at e1; cases e1
        exact absurd rfl (hno _ _)
      · cases ho
    · cases ho
  · rename_i u hx
    split at ho
    · rename_i hp
      cases ho
      obtain ⟨val', e3, _, e5⟩ := h.slot slot _ hx
      have e6 : val' = .slice none 0 0 := by simpa [Rep] using e5
      refine ⟨⟨none, none, 0, 0, t.size⟩, ⟨rfl, rfl, Nat.le_refl _, hp, fun _ => rfl, .inl rfl, fun p hA => (by cases hA), fun p hA => (by cases hA)⟩, fun q e => (by cases e), fun q e => (by cases e), fun _ => rfl, fun x val e1 e2 _ => ?_⟩
      rw [e2] at e3; cases e3
      exact e6
    · cases ho
  · cases ho

/- - all of them -/
def OwnL (s : St) (a : Act) (w : World) (F : Nat → Prop) (ρ : Nat → Option RI) : (rg : List (Nat × Ty)) → List (Option Nat × Bool) → GDen rg → List RI → Prop
  | [], own, _, ris => own = [] ∧ ris = []
  | (slot, t) :: r, own, g, ris => ∃ o os ri rs, own = o :: os ∧ ris = ri :: rs ∧ OwnBy s a w F ρ slot t o g.1 ri ∧ OwnL s a w F ρ r os g.2 rs

theorem packG_law (h : RelAt F0 M W0 F ρ s a w) : ∀ (rg : List (Nat × Ty)) {own g}, packG s rg = some (own, g) → ∃ ris, OwnL s a w F ρ rg own g ris
  | [], own, g, he => by
    simp only [packG, Option.some.injEq, Prod.mk.injEq] at he
    exact ⟨[], he.1.symm, rfl⟩
  | (slot, t) :: r, own, g, he => by
    simp only [packG] at he
    split at he
    · rename_i o xs os v h1 h2
      cases he
      obtain ⟨ri, h3⟩ := owner_law h h1
      obtain ⟨rs, h4⟩ := packG_law h r h2
      exact ⟨ri :: rs, o, os, ri, rs, rfl, rfl, h3, h4⟩
    · cases he

theorem OwnL.get : ∀ (rg : List (Nat × Ty)) {own g ris}, OwnL s a w F ρ rg own g ris → ∀ {c : Nat} {ri : RI}, ris[c]? = some ri →
    ∃ slot t o, ∃ xs : List t.den, rg[c]? = some (slot, t) ∧ own[c]? = some o ∧ (unG rg g)[c]? = some (.live ⟨t, xs⟩) ∧ OwnBy s a w F ρ slot t o xs ri
  | [], own, g, ris, ⟨_, e⟩, c, ri, h => by subst e; simp at h
  | (slot, t) :: r, own, g, ris, ⟨o, os, r0, rs, e1, e2, h1, h2⟩, c, ri, h => by
    subst e1 e2
    cases c with
    | zero =>
      simp only [List.getElem?_cons_zero, Option.some.injEq] at h
      subst h
      exact ⟨slot, t, o, g.1, rfl, rfl, rfl, h1⟩
    | succ c =>
      obtain ⟨slot', t', o', xs, g1, g2, g3, g4⟩ := OwnL.get r h2 (by simpa using h)
      exact ⟨slot', t', o', xs, by simpa using g1, by simpa using g2, by simpa [unG] using g3, g4⟩

theorem OwnL.length : ∀ (rg : List (Nat × Ty)) {own g ris}, OwnL s a w F ρ rg own g ris → own.length = rg.length ∧ ris.length = rg.length ∧ (unG rg g).length = rg.length
  | [], own, g, ris, ⟨e1, e2⟩ => by subst e1 e2; simp [unG]
  | (slot, t) :: r, own, g, ris, ⟨o, os, r0, rs, e1, e2, h1, h2⟩ => by
    subst e1 e2
    obtain ⟨g1, g2, g3⟩ := OwnL.length r h2
    exact ⟨by simp [g1], by simp [g2], by simp [unG, g3]⟩

theorem noDup_at {α : Type} : ∀ (l : List (Option Nat × α)), noDup (l.filterMap (·.1)) = true → ∀ {c c' : Nat} {x y : Option Nat × α} {q : Nat}, l[c]? = some x → l[c']? = some y → x.1 = some q → y.1 = some q → c = c'
  | [], _, c, c', x, y, q, h, _, _, _ => by simp at h
  | z :: l, hd, c, c', x, y, q, h1, h2, e1, e2 => by
    have hmem : ∀ {c : Nat} {x : Option Nat × α}, l[c]? = some x → x.1 = some q → q ∈ l.filterMap (·.1) := fun h e => List.mem_filterMap.2 ⟨_, List.mem_of_getElem? h, e⟩
    obtain ⟨zo, zb⟩ := z
    cases zo with
    | none =>
      have hd' : noDup (l.filterMap (·.1)) = true := by simpa using hd
      cases c with
      | zero => simp only [List.getElem?_cons_zero, Option.some.injEq] at h1; subst h1; cases e1
      | succ c =>
        cases c' with
        | zero => simp only [List.getElem?_cons_zero, Option.some.injEq] at h2; subst h2; cases e2
        | succ c' =>
          have := noDup_at l hd' (c := c) (c' := c') (by simpa using h1) (by simpa using h2) e1 e2
          rw [this]
    | some q0 =>
      obtain ⟨hn, hd'⟩ := noDup_cons (x := q0) (l := l.filterMap (·.1)) (by simpa using hd)
      cases c with
      | zero =>
        simp only [List.getElem?_cons_zero, Option.some.injEq] at h1; subst h1
        simp only [Option.some.injEq] at e1; subst e1
        cases c' with
        | zero => rfl
        | succ c' => exact absurd (hmem (by simpa using h2) e2) hn
      | succ c =>
        cases c' with
        | zero =>
          simp only [List.getElem?_cons_zero, Option.some.injEq] at h2; subst h2
          simp only [Option.some.injEq] at e2; subst e2
          exact absurd (hmem (by simpa using h1) e1) hn
        | succ c' =>
          have := noDup_at l hd' (c := c) (c' := c') (by simpa using h1) (by simpa using h2) e1 e2
          rw [this]

/- - a slot under its template's type -/
theorem slotV_law (h : RelAt F0 M W0 F ρ s a w) (hF : ∀ b, F b → F' b) {own : List (Option Nat × Bool)} (hρ : ∀ c q, own[c]? = some (some q, false) → ρ' c = ρ q) {x : TV} {T : Ty} {v : T.den} {fr : List Nat}
    (hs : slotV s own x T = some (v, fr)) (hfr : ∀ q ∈ fr, ∀ ri p, ρ q = some ri → ri.A = some p → F' p.1) {val : Value} (hx : RepV F (mem w) ρ x.t x.v val) : RepV F' (mem w) ρ' T v val := by
  have mono := fun (t : Ty) (v : t.den) (x : Value) (h : RepV F (mem w) ρ t v x) => RepV.mono (F' := F') (m' := mem w) (ρ' := ρ) hF (fun _ _ _ _ h => h) (fun _ _ h => h) t v x h
  unfold slotV at hs
  split at hs
  · rename_i c
    split at hs
    · rename_i q v
      split at hs
      · rename_i ho
        cases hs
        obtain ⟨h1, ri, h2, h3⟩ := hx
        exact ⟨h1, ri, (hρ c q ho).trans h2, h3⟩
      · cases hs
    · cases hs
  · rename_i c o
    split at hs
    · rename_i q o' i
      split at hs
      · rename_i ho
        simp only [Bool.and_eq_true, decide_eq_true_eq, beq_iff_eq] at ho
        cases hs
        obtain ⟨h1, ri, p, h2, h3⟩ := hx
        obtain ⟨ho1, ho2⟩ := ho
        subst ho2
        exact ⟨h1, ri, p, (hρ c q ho1).trans h2, h3⟩
      · cases hs
    · cases hs
  · cases hs
  · split at hs
    · rename_i v' hc
      split at hs
      · rename_i hp
        cases hs
        exact RepV.of ((coe_lawV hc hp (coe_notAny hc hp) (mono _ _ _ hx)).pure hp)
      · cases hs
    · split at hs
      · rename_i q u hn
        split at hs
        · rename_i ob hob
          split at hs
          · rename_i v' hc
            split at hs
            · rename_i hp
              cases hs
              obtain ⟨ri, h1, h2⟩ := h.obj q ob hob
              obtain ⟨_, ri', h3, h4⟩ := hx
              rw [h1] at h3; cases h3
              have h5 := h2.slice hF (fun p hA => hfr q (by simp) ri p h1 hA)
              have h6 : val = ri.val := by simpa using h4
              subst h6
              exact RepV.of ((coe_lawV hc hp rfl (RepV.of h5)).pure hp)
            · cases hs
          · cases hs
        · cases hs
      · rename_i q u hn
        split at hs
        · rename_i ob hob
          split at hs
          · rename_i v' hc
            split at hs
            · rename_i hp
              cases hs
              obtain ⟨ri, h1, h2⟩ := h.obj q ob hob
              have h5 := h2.part h1 hF (fun p hA => hfr q (by simp) ri p h1 hA) (RepV1.of hx rfl (by intro u; simp))
              exact RepV.of ((coe_lawV hc hp rfl (RepV.of h5)).pure hp)
            · cases hs
          · cases hs
        · cases hs
      · cases hs

theorem slotOw_law (h : RelAt F0 M W0 F ρ s a w) {rg : List (Nat × Ty)} {own : List (Option Nat × Bool)} {g : GDen rg} {ris : List RI} (hg : OwnL s a w F ρ rg own g ris) {i c : Nat} {x : TV} (hx : s.get i = some x)
    (ho : slotOw s own rg i x c = true) {val : Value} (hv : a.tmps[i]? = some val) : RepV F' (mem w) (fun c => ris[c]?) (.ow c) () val := by
  obtain ⟨l1, l2, l3⟩ := OwnL.length rg hg
  obtain ⟨val', e1, hr⟩ := h.slot i x hx
  rw [hv] at e1; cases e1
  have key : ∀ ri, ris[c]? = some ri → val = ri.val → RepV F' (mem w) (fun c => ris[c]?) (.ow c) () val := fun ri h1 h2 => by
    subst h2
    exact ⟨rfl, ri, h1, rfl⟩
  have viaOwner : (match rg[c]? with | some (o, _) => o == i | none => false) = true → (∀ r k, x.t ≠ .oad r k) → RepV F' (mem w) (fun c => ris[c]?) (.ow c) () val := fun hh hno => by
    split at hh
    · rename_i o t hc
      have hlt : c < ris.length := by
        rw [l2]
        rcases Nat.lt_or_ge c rg.length with h1 | h1
        · exact h1
        · simp [List.getElem?_eq_none h1] at hc
      have hri := List.getElem?_eq_getElem hlt
      obtain ⟨slot, t', o', xs, g1, g2, g3, g4⟩ := OwnL.get rg hg hri
      rw [hc] at g1; cases g1
      have e : o = i := by simpa using hh
      subst e
      exact key _ hri (g4.val x val hx hv hno)
    · cases hh
  unfold slotOw at ho
  split at ho
  · cases ho
  · rename_i q u
    rcases Bool.or_eq_true _ _ |>.mp ho with h1 | h1
    · have h1 := of_decide_eq_true h1
      have hlt : c < ris.length := by
        rw [l2, ← l1]
        rcases Nat.lt_or_ge c own.length with h2 | h2
        · exact h2
        · simp [List.getElem?_eq_none h2] at h1
      have hri := List.getElem?_eq_getElem hlt
      obtain ⟨slot, t', o', xs, g1, g2, g3, g4⟩ := OwnL.get rg hg hri
      rw [h1] at g2; cases g2
      obtain ⟨_, ri', h3, h4⟩ := hr
      rw [g4.whole q rfl] at h3; cases h3
      exact key _ hri (by simpa using h4)
    · exact viaOwner h1 (by intro r k; simp)
  · rename_i hno _
    exact viaOwner ho (fun r k e => by
      obtain ⟨t, v⟩ := x
      simp only at e
      subst e
      exact hno r k v rfl)

theorem slotV_live {own : List (Option Nat × Bool)} {x : TV} {T : Ty} {v : T.den} {fr : List Nat} (hs : slotV s own x T = some (v, fr)) : ∀ q ∈ fr, ∃ ob, s.obj q = some ob := by
  unfold slotV at hs
  intro q hq
  split at hs
  · split at hs
    · split at hs
      · cases hs; simp at hq
      · cases hs
    · cases hs
  · split at hs
    · split at hs
      · cases hs; simp at hq
      · cases hs
    · cases hs
  · cases hs
  · split at hs
    · split at hs
      · cases hs; simp at hq
      · cases hs
    · split at hs
      · split at hs
        · rename_i hob
          split at hs
          · split at hs
            · cases hs; simp only [List.mem_singleton] at hq; subst hq; exact ⟨_, hob⟩
            · cases hs
          · cases hs
        · cases hs
      · split at hs
        · rename_i hob
          split at hs
          · split at hs
            · cases hs; simp only [List.mem_singleton] at hq; subst hq; exact ⟨_, hob⟩
            · cases hs
          · cases hs
        · cases hs
      · cases hs

theorem slot1_live {own : List (Option Nat × Bool)} {i : Nat} {T : Ty} {r : List (Nat × Ty)} {rest : Option (SDen r × List Nat)} {v : T.den × SDen r} {fr : List Nat} (h : packS.slot1 s own i T r rest = some (v, fr))
    (hr : ∀ w f, rest = some (w, f) → ∀ q ∈ f, ∃ ob, s.obj q = some ob) : ∀ q ∈ fr, ∃ ob, s.obj q = some ob := by
  unfold packS.slot1 at h
  split at h
  · split at h
    · rename_i h1
      cases h
      intro q hq
      rcases List.mem_append.1 hq with hq | hq
      · exact slotV_live h1 q hq
      · exact hr _ _ rfl q hq
    · cases h
  · cases h

theorem packS_live {own : List (Option Nat × Bool)} {rg : List (Nat × Ty)} : ∀ (sl : List (Nat × Ty)) {v : SDen sl} {fr : List Nat}, packS s own rg sl = some (v, fr) → ∀ q ∈ fr, ∃ ob, s.obj q = some ob := by
  intro sl
  induction sl with
  | nil => intro v fr h q hq; simp only [packS, Option.some.injEq, Prod.mk.injEq] at h; rw [← h.2] at hq; simp at hq
  | cons p sl ih =>
    obtain ⟨i, T⟩ := p
    intro v fr h
    cases T
    case ow c =>
      simp only [packS] at h
      split at h
      · rename_i h2
        split at h
        · cases h; exact ih h2
        · cases h
      · cases h
    case tup => simp [packS] at h
    case any => simp [packS] at h
    all_goals exact slot1_live (by simpa only [packS] using h) fun w f hf => ih hf

theorem packS_law (h : RelAt F0 M W0 F ρ s a w) (hF : ∀ b, F b → F' b) {rg : List (Nat × Ty)} {own : List (Option Nat × Bool)} {g : GDen rg} {ris : List RI} (hg : OwnL s a w F ρ rg own g ris) :
    ∀ (sl : List (Nat × Ty)) {v : SDen sl} {fr : List Nat}, packS s own rg sl = some (v, fr) → (∀ q ∈ fr, ∀ ri p, ρ q = some ri → ri.A = some p → F' p.1) →
      ∀ (i : Nat) val, a.tmps[i]? = some val → RepV F' (mem w) (fun c => ris[c]?) (asc (unS sl v) i).t (asc (unS sl v) i).v val := by
  have hρ : ∀ c q, own[c]? = some (some q, false) → (fun c => ris[c]?) c = ρ q := fun c q hc => by
    obtain ⟨l1, l2, l3⟩ := OwnL.length rg hg
    have hlt : c < ris.length := by
      rw [l2, ← l1]
      rcases Nat.lt_or_ge c own.length with h2 | h2
      · exact h2
      · have h3 : own[c]? = none := List.getElem?_eq_none h2
        rw [h3] at hc; cases hc
    have hri := List.getElem?_eq_getElem hlt
    obtain ⟨slot, t', o', xs, g1, g2, g3, g4⟩ := OwnL.get rg hg hri
    rw [hc] at g2; cases g2
    exact hri.trans (g4.whole q rfl).symm
  have setL : ∀ (l : List (Nat × TV)) (i : Nat) (y : TV), (∀ (j : Nat) val, a.tmps[j]? = some val → RepV F' (mem w) (fun c => ris[c]?) (asc l j).t (asc l j).v val) →
      (∀ val, a.tmps[i]? = some val → RepV F' (mem w) (fun c => ris[c]?) y.t y.v val) → ∀ (j : Nat) val, a.tmps[j]? = some val → RepV F' (mem w) (fun c => ris[c]?) (asc ((i, y) :: l) j).t (asc ((i, y) :: l) j).v val := fun l i y hl hy j val hj => by
    simp only [asc]
    cases hb : Nat.beq i j with
    | true => have := Nat.eq_of_beq_eq_true hb; subst this; exact hy val hj
    | false => exact hl j val hj
  have one : ∀ {T : Ty} {i : Nat} {r : List (Nat × Ty)} {rest : Option (SDen r × List Nat)} {v : T.den} {w' : SDen r} {fr : List Nat}, packS.slot1 s own i T r rest = some ((v, w'), fr) →
      ∃ x f1 f2, s.get i = some x ∧ slotV s own x T = some (v, f1) ∧ rest = some (w', f2) ∧ fr = f1 ++ f2 := fun hh => by
    unfold packS.slot1 at hh
    split at hh
    · rename_i x hx
      split at hh
      · rename_i h1
        simp only [Option.some.injEq, Prod.mk.injEq] at hh
        obtain ⟨⟨rfl, rfl⟩, rfl⟩ := hh
        exact ⟨x, _, _, hx, h1, rfl, rfl⟩
      · cases hh
    · cases hh
  intro sl
  induction sl with
  | nil => intro v fr _ _ j val hj; trivial
  | cons p sl ih =>
    obtain ⟨i, T⟩ := p
    have go : ∀ {v : T.den} {w' : SDen sl} {fr : List Nat}, packS.slot1 s own i T sl (packS s own rg sl) = some ((v, w'), fr) → (∀ q ∈ fr, ∀ ri p, ρ q = some ri → ri.A = some p → F' p.1) →
        ∀ (j : Nat) val, a.tmps[j]? = some val → RepV F' (mem w) (fun c => ris[c]?) (asc ((i, ⟨T, v⟩) :: unS sl w') j).t (asc ((i, ⟨T, v⟩) :: unS sl w') j).v val := fun {v w' fr} hh hfr => by
      obtain ⟨x, f1, f2, h1, h2, h3, rfl⟩ := one hh
      refine setL _ i _ (ih h3 (fun q hq => hfr q (List.mem_append_right _ hq))) fun val hv => ?_
      obtain ⟨val', e1, hr⟩ := h.slot i x h1
      rw [hv] at e1; cases e1
      exact slotV_law h hF hρ h2 (fun q hq => hfr q (List.mem_append_left _ hq)) hr
    intro v fr hh hfr
    cases T
    case ow c =>
      simp only [packS] at hh
      split at hh
      · rename_i x v1 f1 h1 h2
        split at hh
        · rename_i ho
          cases hh
          exact setL _ i _ (ih h2 hfr) fun val hv => slotOw_law h hg h1 ho hv
        · cases hh
      · cases hh
    case tup => simp [packS] at hh
    case any => simp [packS] at hh
    all_goals exact go (by simpa only [packS] using hh) hfr

theorem unFn_law (h : RelAt F0 M W0 F ρ s a w) {F' : Nat → Prop} {ρ' : Nat → Option RI} : ∀ (fns : List (Nat × Nat)) (l : List (Nat × TV)), packFn s fns = true →
    (∀ (j : Nat) val, a.tmps[j]? = some val → RepV F' (mem w) ρ' (asc l j).t (asc l j).v val) → ∀ (j : Nat) val, a.tmps[j]? = some val → RepV F' (mem w) ρ' (asc (unFn fns l) j).t (asc (unFn fns l) j).v val
  | [], l, _, hl => hl
  | (i, f) :: r, l, hp, hl => fun j val hv => by
    simp only [packFn, Bool.and_eq_true] at hp
    simp only [unFn, asc]
    cases hb : Nat.beq i j with
    | false => exact unFn_law h r l hp.2 hl j val hv
    | true =>
      have e := Nat.eq_of_beq_eq_true hb
      subst e
      obtain ⟨h1, _⟩ := hp
      split at h1
      · rename_i f' u hx
        have e := Nat.eq_of_beq_eq_true h1
        subst e
        obtain ⟨val', e1, hr⟩ := h.slot i _ hx
        rw [hv] at e1; cases e1
        obtain ⟨h2, ds, h3, h4⟩ := hr
        exact ⟨h2, ds, h3, h4⟩
      · cases h1

/- - WHAT A LOOP HANDS ON stands to the same frame and the same memory -/
theorem pack_law (h : RelAt F0 M W0 F ρ s a w) {n : Nat} {t : Tpl} {x : t.X} (hp : pack n s t = some x) : ∃ F' ρ', RelAt F0 M W0 F' ρ' (unpack n t x) a w := by
  unfold pack at hp
  split at hp
  · rename_i own g hg
    split at hp
    · rename_i hn
      split at hp
      · rename_i v fr hs
        split at hp
        · rename_i hc
          cases hp
          simp only [Bool.and_eq_true, beq_iff_eq, List.all_eq_true, Bool.not_eq_true', List.contains_eq_mem, decide_eq_false_iff_not] at hc hn
          obtain ⟨⟨hd, hdis⟩, hfn⟩ := hc
          obtain ⟨ris, hL⟩ := packG_law h t.rg hg
          obtain ⟨l1, l2, l3⟩ := OwnL.length t.rg hL
          let F' : Nat → Prop := fun b => F b ∨ ∃ q ∈ fr, ∃ ob ri p, s.obj q = some ob ∧ ρ q = some ri ∧ ri.A = some p ∧ p.1 = b
          have hF : ∀ b, F b → F' b := fun b hb => .inl hb
          have frl : ∀ q ∈ fr, ∃ ob, s.obj q = some ob := packS_live t.sl hs
          have hfr : ∀ q ∈ fr, ∀ ri p, ρ q = some ri → ri.A = some p → F' p.1 := fun q hq ri p h1 h2 => by
            obtain ⟨ob, hob⟩ := frl q hq
            exact .inr ⟨q, hq, ob, ri, p, hob, h1, h2, rfl⟩
          have getO : ∀ {r : Nat} {ob : OB}, (unpack n t (v, g)).obj r = some ob → ∃ ri slot o, ris[r]? = some ri ∧ own[r]? = some o ∧ OwnBy s a w F ρ slot ob.t o ob.xs ri := fun {r ob} hr => by
            have h1 := St.obj_iff.1 hr
            simp only [unpack] at h1
            have hlt : r < ris.length := by
              rw [l2, ← l3]
              rcases Nat.lt_or_ge r (unG t.rg g).length with h2 | h2
              · exact h2
              · simp [List.getElem?_eq_none h2] at h1
            have hri := List.getElem?_eq_getElem hlt
            obtain ⟨slot, t', o', xs, g1, g2, g3, g4⟩ := OwnL.get t.rg hL hri
            rw [h1] at g3
            simp only [Option.some.injEq, ObS.live.injEq] at g3
            subst g3
            exact ⟨_, slot, o', hri, g2, g4⟩
          refine ⟨F', fun c => ris[c]?, h.defers, ?_, ?_, ?_, ?_, ?_, ?_, fun b hb => .inl (h.base b hb), ?_, h.kept⟩
          · intro i x hx
            have hlt := St.lt_get hx
            rw [St.get_lt hlt] at hx
            cases hx
            obtain ⟨val, e, _⟩ := h.slot i _ (St.get_lt (by rw [hn]; exact hlt))
            exact ⟨val, e, unFn_law h t.fn _ hfn (fun j val e => packS_law h hF hL t.sl hs hfr j val e) i val e⟩
          · intro r ob hr
            obtain ⟨ri, slot, o, h1, h2, h3⟩ := getO hr
            have h4 : ORep F w ρ ri ob := h3.rep
            exact ⟨ri, h1, (ORep.pure0 h4).mono (F' := F') hF (fun _ _ h => h)⟩
          · intro r r' ob ob' ri ri' p p' hr hr' h1 h2 hp hp' he
            obtain ⟨ri1, slot, o, h3, h4, h5⟩ := getO hr
            obtain ⟨ri2, slot', o', h6, h7, h8⟩ := getO hr'
            rw [h1] at h3; cases h3
            rw [h2] at h6; cases h6
            cases ho : o.1 with
            | none => rw [h5.empty ho] at hp; cases hp
            | some q =>
              cases ho' : o'.1 with
              | none => rw [h8.empty ho'] at hp'; cases hp'
              | some q' =>
                obtain ⟨ob1, rq, k1, k2, k3⟩ := h5.part q ho
                obtain ⟨ob2, rq', k4, k5, k6⟩ := h8.part q' ho'
                obtain ⟨p1, k7, k8⟩ := k3 p hp
                obtain ⟨p2, k9, k10⟩ := k6 p' hp'
                have := h.sep q q' ob1 ob2 rq rq' p1 p2 k1 k4 k2 k5 k7 k9 (by rw [k8, k10, he])
                subst this
                exact noDup_at own hd h4 h7 ho ho'
          · intro r ob ri p hr h1 hp
            obtain ⟨ri1, slot, o, h3, h4, h5⟩ := getO hr
            rw [h1] at h3; cases h3
            cases ho : o.1 with
            | none => rw [h5.empty ho] at hp; cases hp
            | some q =>
              obtain ⟨ob1, rq, k1, k2, k3⟩ := h5.part q ho
              obtain ⟨p1, k7, k8⟩ := k3 p hp
              obtain ⟨m1, m2⟩ := h.own q ob1 rq p1 k1 k2 k7
              rw [k8] at m1 m2
              refine ⟨fun hb => ?_, m2⟩
              rcases hb with hb | ⟨q', hq', ob2, ri2, p2, n1, n2, n3, n4⟩
              · exact m1 hb
              · have := h.sep q q' ob1 ob2 rq ri2 p1 p2 k1 n1 k2 n2 k7 n3 (by rw [k8, n4])
                subst this
                exact hdis q hq' (List.mem_filterMap.2 ⟨o, List.mem_of_getElem? h4, ho⟩)
          · intro r hr
            rcases hr with hr | ⟨o, hr, ho⟩
            · simp only [unpack] at hr
              have : ris.length ≤ r := by rw [l2, ← l3]; exact List.getElem?_eq_none_iff.1 hr
              exact List.getElem?_eq_none this
            · exfalso
              subst ho
              simp only [unpack] at hr
              have hlt : r < ris.length := by
                rw [l2, ← l3]
                rcases Nat.lt_or_ge r (unG t.rg g).length with h2 | h2
                · exact h2
                · simp [List.getElem?_eq_none h2] at hr
              obtain ⟨slot, t', o', xs, g1, g2, g3, g4⟩ := OwnL.get t.rg hL (List.getElem?_eq_getElem hlt)
              rw [hr] at g3; cases g3
          · intro b hb
            rcases hb with hb | ⟨q', hq', ob2, ri2, p2, n1, n2, n3, n4⟩
            · exact h.lt b hb
            · obtain ⟨ri3, n5, n6⟩ := h.obj q' ob2 n1
              rw [n2] at n5; cases n5
              subst n4
              exact n6.blockLt n3
          · intro b hb
            rcases hb with hb | ⟨q', hq', ob2, ri2, p2, n1, n2, n3, n4⟩
            · exact h.frm b hb
            · subst n4
              exact .inr (h.own q' ob2 ri2 p2 n1 n2 n3).2
        · cases hp
      · cases hp
    · cases hp
  · cases hp

end Go.Vs
