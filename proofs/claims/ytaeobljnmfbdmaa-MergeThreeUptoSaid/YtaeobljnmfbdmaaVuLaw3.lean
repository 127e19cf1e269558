/- Value semantics, part 8: what each operation does, one by one. -/
import Derived.Test.YtaeobljnmfbdmaaVuLaw2
set_option linter.unusedVariables false
namespace Go.Vu
open Go
variable {P : Program} {tb : Tab} {R : Type} {F0 : Bs} {M F : Nat → Prop} {W0 w w' : World} {ρ : RK → Option RI} {s : St} {a : Act} {m : Nat → Nat → Option Value} {id : Nat}
theorem lk_some {α : Type} {xs : List α} {i : Int} {x : α} (h : lk xs i = some x) : 0 ≤ i ∧ xs[i.toNat]? = some x := by
 unfold lk at h
 split at h
 ·exact ⟨‹_›, h⟩
 ·cases h
theorem move_law (h : RelAt F0 M W0 F ρ s a w) {x : Operand} {e : Eff R} (he : opMove x s = some e) : Done P F0 M W0 a w id e (pure (a.eval x)) := by
 unfold opMove at he
 split at he
 ·rename_i y hy
  cases he
  refine done_one h fun u hu => ⟨_, rfl, ?_⟩
  cases hu
  exact (ev_law h hy).1
 ·cases he
theorem evBool (h : RelAt F0 M W0 F ρ s a w) {x : Operand} {b : Bool} (hy : ev s x = some ⟨.bool, b⟩) : a.eval x = .bool b := by
 obtain ⟨h1, h2⟩ := (ev_law h hy).1
 simpa [Rep] using h2
theorem evInt (h : RelAt F0 M W0 F ρ s a w) {x : Operand} {k : IntKind} {n : Int} (hy : ev s x = some ⟨.int k, n⟩) : a.eval x = .int k n := by
 obtain ⟨h1, h2⟩ := (ev_law h hy).1
 simpa [Rep] using h2
theorem evStr (h : RelAt F0 M W0 F ρ s a w) {x : Operand} {l : List UInt8} (hy : ev s x = some ⟨.str, l⟩) : a.eval x = .string ⟨l.toArray⟩ := by
 obtain ⟨h1, h2⟩ := (ev_law h hy).1
 simpa [Rep] using h2
theorem evNils (h : RelAt F0 M W0 F ρ s a w) {x : Operand} {u : Unit} (hy : ev s x = some ⟨.nils, u⟩) : a.eval x = .slice none 0 0 := by
 obtain ⟨h1, h2⟩ := (ev_law h hy).1
 simpa [Rep] using h2
theorem evOad (h : RelAt F0 M W0 F ρ s a w) {x : Operand} {r o : Nat} {i : Int} (hy : ev s x = some ⟨.oad r o, i⟩) :
  ∃ ri p, ρ r = some ri ∧ ri.A = some p ∧ a.eval x = .pointer (some (adr (p.1, p.2 + i.toNat * ri.sz + o))) := by
 obtain ⟨h1, ri, p, h2, h3, h4⟩ := (ev_law h hy).1
 exact ⟨ri, p, h2, h3, by simpa using h4⟩
theorem evPdd (h : RelAt F0 M W0 F ρ s a w) {x : Operand} {p o : Nat} {i : Nat × Int} (hy : ev s x = some ⟨.pdd p o, i⟩) :
  ∃ ri p', ρ (.pl p i.1) = some ri ∧ ri.A = some p' ∧ a.eval x = .pointer (some (adr (p'.1, p'.2 + i.2.toNat * ri.sz + o))) := by
 obtain ⟨h1, ri, p, h2, h3, h4⟩ := (ev_law h hy).1
 exact ⟨ri, p, h2, h3, by simpa using h4⟩
theorem evPsl (h : RelAt F0 M W0 F ρ s a w) {x : Operand} {p : Nat} {v : Option (Nat × Nat × Nat)} (hy : ev s x = some ⟨.psl p, v⟩) :
  (v = none ∧ a.eval x = .slice none 0 0) ∨ ∃ i u, v = some (i, u) ∧ ∃ ri, ρ (.pl p i) = some ri ∧ ∃ A c, a.eval x = .slice A u.2 c ∧ u.2 ≤ c ∧ u.1 + c ≤ ri.c ∧ u.1 + u.2 ≤ ri.n ∧ (c = 0 ∨ ∃ p, ri.A = some p ∧ A = some (adr (p.1, p.2 + u.1 * ri.sz))) ∧ ri.n ≤ u.1 + c := by
 obtain ⟨h1, h2⟩ := (ev_law h hy).1
 rcases h2 with ⟨h2, h3⟩ | ⟨i, u, h2, ri, h3, A, c, h4, h5⟩
 ·exact .inl ⟨h2, by simpa using h3⟩
 ·exact .inr ⟨i, u, h2, ri, h3, A, c, by simpa using h4, h5⟩
theorem pget_some {α : Type} {l : List (Option (List α))} {i : Nat} {ix : Int} {x : α} (h : pget l i ix = some x) : ∃ xs, l[i]? = some (some xs) ∧ 0 ≤ ix ∧ xs[ix.toNat]? = some x := by
 unfold pget at h
 split at h
 ·rename_i xs hx
  split at h
  ·exact ⟨xs, hx, by assumption, h⟩
  ·cases h
 ·cases h
theorem obj_pl {p i : Nat} {q : PL} {xs : List q.t.den} (hp : pol s.pls p = some q) (hx : q.l[i]? = some (some xs)) : s.obj (.pl p i) = some ⟨q.t, xs⟩ := by
 rw [St.obj_cont]; simp only [St.cont, hp, PL.cont, hx]
theorem sets_pl {p i : Nat} {q : PL} {o : Option (List q.t.den)} (hp : pol s.pls p = some q) (hi : i < q.l.length) : Sets s (.pl p i) (match o with | some xs => some (.arr ⟨q.t, xs⟩) | none => none) (s.setPl p ⟨q.t, q.l.set i o⟩) := by
 refine ⟨fun _ => rfl, fun k => ?_, fun _ h => h, fun p' => ?_⟩
 ·cases k with
  | reg r => rw [if_neg (by simp)]; rfl
  | pl p' j =>
   show (match pol (pou s.pls p ⟨q.t, q.l.set i o⟩) p' with | some q => q.cont j | none => none) = _
   rw [pol_pou]
   by_cases e : p = p'
   ·subst e
    simp only [if_true, PL.cont, List.getElem?_set]
    by_cases e2 : i = j
    ·subst e2
     simp only [if_true, if_pos hi]
     cases o <;> rfl
    ·rw [if_neg e2, if_neg (by simp; omega)]
     simp only [St.cont, hp, PL.cont]
     cases q.l[j]? with
     | none => rfl
     | some o => cases o <;> rfl
   ·rw [if_neg e, if_neg (by simp; omega)]; rfl
 ·unfold St.setPl St.pln
  simp only [pol_pou]
  by_cases e : p = p'
  ·subst e; rw [if_pos rfl, hp]; simp
  ·rw [if_neg e]
theorem pl_lt {α : Type} {l : List α} {i : Nat} {x : α} (h : l[i]? = some x) : i < l.length := by
 rcases Nat.lt_or_ge i l.length with h1 | h1
 ·exact h1
 ·rw [List.getElem?_eq_none h1] at h; cases h
theorem setPl_setPl {p : Nat} {q q' : PL} : (s.setPl p q).setPl p q' = s.setPl p q' := by
 have : ∀ l : List (Nat × PL), pou (pou l p q) p q' = pou l p q' := by
  intro l
  induction l with
  | nil => simp [pou, Nat.beq_refl]
  | cons x l ih =>
   obtain ⟨k, x⟩ := x
   simp only [pou]
   cases hb : Nat.beq k p with
   | true => simp [pou, hb]
   | false => simp [pou, hb, ih]
 simp only [St.setPl, this]
theorem pol_setPl {p p' : Nat} {q : PL} : pol (s.setPl p q).pls p' = if p = p' then some q else pol s.pls p' := by
 simp only [St.setPl, pol_pou]
theorem evPad (h : RelAt F0 M W0 F ρ s a w) {x : Operand} {r o : Nat} {i : Unit} (hy : ev s x = some ⟨.pad r o, i⟩) :
  ∃ ri p, ρ r = some ri ∧ ri.A = some p ∧ a.eval x = .pointer (some (adr (p.1, p.2 + o))) := by
 obtain ⟨h1, ri, p, h2, h3, h4⟩ := (ev_law h hy).1
 exact ⟨ri, p, h2, h3, by simpa using h4⟩
theorem evRad (h : RelAt F0 M W0 F ρ s a w) {x : Operand} {T : Ty} {o : Nat} {v : T.den} (hy : ev s x = some ⟨.rad T o, v⟩) :
  ∃ (p : Nat × Nat) (ds : List Value), a.eval x = .pointer (some (adr (p.1, p.2 + o))) ∧ F p.1 ∧ CellsAt (mem w) p.1 p.2 ds ∧ Rep F (mem w) ρ T v ds := by
 obtain ⟨h1, p, ds, h2, h3⟩ := (ev_law h hy).1
 exact ⟨p, ds, by simpa using h2, h3⟩
theorem evSlice (h : RelAt F0 M W0 F ρ s a w) {x : Operand} {T : Ty} {xs : List T.den} (hy : ev s x = some ⟨.slice T, xs⟩) :
  ∃ A n c, a.eval x = .slice A n c ∧ n = xs.length ∧ n ≤ c ∧
   (n ≠ 0 → ∃ p, A = some (adr p) ∧ F p.1 ∧ ∀ (i : Nat) x, xs[i]? = some x → ∃ ds, CellsAt (mem w) p.1 (p.2 + i * T.size) ds ∧ Rep F (mem w) ρ T x ds) := by
 obtain ⟨h1, A, n, c, h2, h3⟩ := (ev_law h hy).1
 exact ⟨A, n, c, by simpa using h2, h3⟩
theorem evOw (h : RelAt F0 M W0 F ρ s a w) {x : Operand} {r : Nat} {u : Unit} (hy : ev s x = some ⟨.ow r, u⟩) : ∃ ri, ρ r = some ri ∧ a.eval x = ri.val := by
 obtain ⟨h1, ri, h2, h3⟩ := (ev_law h hy).1
 exact ⟨ri, h2, by simpa using h3⟩
theorem evOsl (h : RelAt F0 M W0 F ρ s a w) {x : Operand} {r : Nat} {v : Nat × Nat} (hy : ev s x = some ⟨.osl r, v⟩) :
  ∃ ri A c, ρ r = some ri ∧ a.eval x = .slice A v.2 c ∧ v.2 ≤ c ∧ v.1 + c ≤ ri.c ∧ v.1 + v.2 ≤ ri.n ∧ (c = 0 ∨ ∃ p, ri.A = some p ∧ A = some (adr (p.1, p.2 + v.1 * ri.sz))) ∧ ri.n ≤ v.1 + c := by
 obtain ⟨h1, ri, h2, A, c, h3, h4⟩ := (ev_law h hy).1
 exact ⟨ri, A, c, h2, by simpa using h3, h4⟩
theorem pick_law (h : RelAt F0 M W0 F ρ s a w) {c x y : Operand} {e : Eff R} (he : opPick c x y s = some e) :
  Done P F0 M W0 a w id e (do pure (if ← asBool (a.eval c) then a.eval x else a.eval y)) := by
 unfold opPick at he
 split at he
 ·rename_i cb hc
  have hcv := evBool h hc
  split at he
  ·rename_i u v hu hv
   split at he
   ·rename_i ht
    cases he
    refine done_one h fun z hz => ⟨_, by simp [hcv, asBool]; rfl, ?_⟩
    cases hz
    cases cb
    ·obtain ⟨t, v⟩ := v
     simp only at ht
     subst ht
     exact (ev_law h hv).1
    ·exact (ev_law h hu).1
   ·cases he
  ·rename_i u hu hv
   cases he
   refine done_one h fun z hz => ⟨_, by simp [hcv, asBool]; rfl, ?_⟩
   cases cb
   ·cases hz
   ·cases hz; exact (ev_law h hu).1
  ·rename_i v hu hv
   cases he
   refine done_one h fun z hz => ⟨_, by simp [hcv, asBool]; rfl, ?_⟩
   cases cb
   ·cases hz; exact (ev_law h hv).1
   ·cases hz
  ·cases he
 ·cases he
theorem run_newRow (el : TypeId) (cs : Array Value) : (newRow el cs).run P w = .ok (adr (w.heap.size, 0)) (w.alloc (.cells cs el)) := rfl
theorem run_newVar (el : TypeId) (v : Value) : (newVar el v).run P w = .ok (adr (w.heap.size, 0)) (w.alloc (.cells v.cells el)) := rfl
theorem run_zeroValue {t : TypeId} {info : TypeInfo} {z : Value} (h : P.info? t = some info) (hz : info.zero = some z) : (zeroValue t).run P w = .ok z w := by
 simp [zeroValue, typeInfo, program, Sem.run, h, hz]
theorem run_typeInfo {t : TypeId} {info : TypeInfo} (h : P.info? t = some info) : (typeInfo t).run P w = .ok info w := by
 simp [typeInfo, program, Sem.run, h]
theorem run_sizeOf {t : TypeId} {info : TypeInfo} (h : P.info? t = some info) : (sizeOf t).run P w = .ok info.size w := by
 simp [sizeOf, run_typeInfo h]
theorem pure_notAny' {t : Ty} (h : t.pure = true) : isAny t = false := by
 cases t <;> simp [Ty.pure, isAny] at h ⊢
theorem nilT_pure : ∀ (t : Ty), t.pure = true → (nilT t).pure = true
 | .st t, h => nilT_pure t h
 | .pair a b, h => by
  simp only [Ty.pure, Bool.and_eq_true] at h
  simp only [nilT, Ty.pure, nilT_pure a h.1, nilT_pure b h.2, Bool.and_self]
 | .int _, h => h
 | .bool, h => h
 | .str, h => h
 | .unit, h => h
 | .slice _, h => rfl
 | .sln _, h => h
 | .ptr _, h => rfl
 | .rad _ _, h => h
 | .clo _ _, h => h
 | .nils, h => h
 | .nilp, h => h
 | .fmp _ _, h => h
 | .lost, h => h
theorem alloc_law (hT : TabOk P tb) (h : RelAt F0 M W0 F ρ s a w) (hf : ol s.objs id = none) {t : Nat} {e : Eff R} (he : opAlloc tb t id s = some e) :
  Done P F0 M W0 a w id e (Instr.alloc t true (.tuple #[])) := by
 unfold opAlloc at he
 split at he
 ·rename_i i hi
  split at he
  ·rename_i hp
   cases he
   obtain ⟨info, h1, h2, h3, h4⟩ := (hT t i hi).info
   obtain ⟨z, hz, hz'⟩ := h4 (pure_notAny' hp)
   refine done_nbox (el := t) h hf (pure_cell (nilT_pure _ hp)) ((hT t i hi).nilz info z h1 hz (pure_notAny' hp) F (mem w) ρ).cells ?_
   simp only [Instr.alloc, Sem.run_bind, run_zeroValue h1 hz, Result.andThen_ok, run_newVar, Sem.run_pure]
  ·cases he
 ·cases he
theorem RepV.cells {t : Ty} {v : t.den} {x : Value} (hc : t.cell = true) (h : RepV F m ρ t v x) : Rep F m ρ t v x.cells.toList :=
 (RepV1.of h (by cases t <;> simp [Ty.cell, isAny] at hc ⊢) (by intro u e; subst e; simp [Ty.cell] at hc)).cells
theorem box_law (h : RelAt F0 M W0 F ρ s a w) (hf : ol s.objs id = none) {t : Nat} {x : Operand} {e : Eff R} (he : opBox x id s = some e) :
  Done P F0 M W0 a w id e (Instr.box t (a.eval x)) := by
 unfold opBox at he
 split at he
 ·rename_i y hy
  split at he
  ·rename_i hc
   cases he
   refine done_nbox (el := t) h hf hc (RepV.cells hc (ev_law h hy).1) ?_
   simp only [Instr.box, Sem.run_bind, Result.andThen_ok, run_newVar, Sem.run_pure]
  ·cases he
 ·cases he
theorem frz_fresh {r : Nat} {c : Cont} {n : Tn} (hr : s.cont r = some c) (hf : ol s.objs id = none) : ol (s.frz r n).objs id = none := by
 rw [ol_frz]
 split
 ·rename_i e; subst e; rw [St.cont_iff, hf] at hr; cases hr
 ·rw [hf]; rfl
theorem toHoldN_fresh : ∀ (n : Nat) {s s' : St} {x y : TV}, toHoldN n s x = some (y, s') → ol s.objs id = none → ol s'.objs id = none
 | 0, _, _, _, _, h, _ => by cases h
 | n + 1, s, s', x, y, h, hf => by
  unfold toHoldN at h
  split at h
  ·cases h; exact hf
  ·split at h
   ·cases h
   ·rename_i r hr
    obtain ⟨c0, hc0, _⟩ := findF_law 8 _ hr
    rw [hc0] at h
    split at h
    ·split at h
     ·split at h
      ·split at h
       ·refine toHoldN_fresh n h ?_
        show ol (s.frz r _).objs id = none
        exact frz_fresh hc0 hf
       ·cases h
      ·cases h
     ·exact toHoldN_fresh n h (frz_fresh hc0 hf)
    ·exact toHoldN_fresh n h (frz_fresh hc0 hf)
    ·cases h
theorem toHold_fresh {x : TV} {y : TV} {s s' : St} {id : Nat} (hz : toHold s x = some (y, s')) (hf : ol s.objs id = none) : ol s'.objs id = none := toHoldN_fresh 16 hz hf
theorem load_op (hT : TabOk P tb) (h : RelAt F0 M W0 F ρ s a w) {t : Nat} {x : Operand} {e : Eff R} (he : opLoad tb t x s = some e) :
  Done P F0 M W0 a w id e (Instr.loadAt t (a.eval x)) := by
 unfold opLoad at he
 split at he
 ·rename_i i r o ix hi hx
  split at he
  ·rename_i ob hob
   split at he
   ·rename_i l hl
    cases he
    refine done_one h fun u hu => ?_
    simp only [Cnd.map, Cnd.look] at hu
    cases hk : lk ob.xs ix with
    | none => simp [hk] at hu
    | some old =>
     simp only [hk, Option.map_some, Option.some.injEq] at hu
     subst hu
     obtain ⟨hix, hold⟩ := lk_some hk
     obtain ⟨ri, p, h1, h2, h3⟩ := evOad h hx
     obtain ⟨ri', h1', ho⟩ := h.obj r ob hob
     rw [h1] at h1'; cases h1'
     obtain ⟨ds, h4, h5⟩ := ho.cells p h2 _ old hold
     obtain ⟨s1, s2, c1, c2, c3, e1, e2, h6, _⟩ := comp_law _ _ _ _ _ hl old ds h5
     subst e1
     have h7 := h4.part
     rw [e2] at h7
     obtain ⟨val, h8, h9⟩ := load_law (P := P) (hT t i hi) s2 s1 (comp_one _ _ _ _ _ hl) (comp_cell _ _ _ _ _ hl (hold_cell ho.pure)) (p := (p.1, p.2 + ix.toNat * ri.sz + o)) h7 h6
     exact ⟨val, by simpa [Instr.loadAt, Instr.sureAddr, h3] using h8, RepV.of h9⟩
   ·cases he
  ·cases he
 ·rename_i i T o v hi hx
  split at he
  ·rename_i l hl
   split at he
   ·rename_i hp
    cases he
    refine done_one h fun u hu => ?_
    cases hu
    obtain ⟨p, ds, h1, h2, h3, h4⟩ := evRad h hx
    obtain ⟨s1, s2, c1, c2, c3, e1, e2, h6, _⟩ := comp_law _ _ _ _ _ hl v ds h4
    subst e1
    have h7 := h3.part
    rw [e2] at h7
    obtain ⟨val, h8, h9⟩ := load_law (P := P) (hT t i hi) s2 s1 (comp_one _ _ _ _ _ hl) (comp_cell _ _ _ _ _ hl (hold_cell hp)) (p := (p.1, p.2 + o)) h7 h6
    exact ⟨val, by simpa [Instr.loadAt, Instr.sureAddr, h1] using h8, RepV.of h9⟩
   ·cases he
  ·cases he
 ·rename_i i r o v hi hx
  split at he
  ·rename_i y hy
   split at he
   ·rename_i l hl
    cases he
    refine done_one h fun u hu => ?_
    cases hu
    obtain ⟨ri, p, h1, h2, h3⟩ := evPad h hx
    obtain ⟨ri', h1', ho⟩ := h.box r y hy
    rw [h1] at h1'; cases h1'
    obtain ⟨p', ds, cells, el, g1, g2, g3, g4, g5⟩ := ho.ex
    rw [h2] at g1; cases g1
    obtain ⟨s1, s2, c1, c2, c3, e1, e2, h6, _⟩ := comp_law _ _ _ _ _ hl y.v ds g5
    subst e1
    have h7 := g4.part
    rw [e2] at h7
    obtain ⟨val, h8, h9⟩ := load_law (P := P) (hT t i hi) s2 s1 (comp_one _ _ _ _ _ hl) (comp_cell _ _ _ _ _ hl ho.cell) (p := (p.1, p.2 + o)) h7 h6
    exact ⟨val, by simpa [Instr.loadAt, Instr.sureAddr, h3] using h8, RepV.of h9⟩
   ·cases he
  ·cases he
 ·rename_i i pn o v hi hx
  split at he
  ·rename_i q hq
   split at he
   ·rename_i l hl
    cases he
    refine done_one h fun u hu => ?_
    simp only [Cnd.map, Cnd.look] at hu
    cases hk : pget q.l v.1 v.2 with
    | none => simp [hk] at hu
    | some old =>
     simp only [hk, Option.map_some, Option.some.injEq] at hu
     subst hu
     obtain ⟨xs, hxs, hix, hold⟩ := pget_some hk
     obtain ⟨ri, p, h1, h2, h3⟩ := evPdd h hx
     obtain ⟨ri', h1', ho⟩ := h.obj (.pl pn v.1) _ (obj_pl hq hxs)
     rw [h1] at h1'; cases h1'
     obtain ⟨ds, h4, h5⟩ := ho.cells p h2 _ old hold
     obtain ⟨s1, s2, c1, c2, c3, e1, e2, h6, _⟩ := comp_law _ _ _ _ _ hl old ds h5
     subst e1
     have h7 := h4.part
     rw [e2] at h7
     obtain ⟨val, h8, h9⟩ := load_law (P := P) (hT t i hi) s2 s1 (comp_one _ _ _ _ _ hl) (comp_cell _ _ _ _ _ hl (hold_cell ho.pure)) (p := (p.1, p.2 + v.2.toNat * ri.sz + o)) h7 h6
     exact ⟨val, by simpa [Instr.loadAt, Instr.sureAddr, h3] using h8, RepV.of h9⟩
   ·cases he
  ·cases he
 ·cases he
theorem seg_get {α : Type} {l vs : List α} {q k : Nat} (hq : q + vs.length ≤ l.length) : (l.take q ++ vs ++ l.drop (q + vs.length))[k]? = if k < q then l[k]? else if k < q + vs.length then vs[k - q]? else l[k]? := by
 have ht : (l.take q).length = q := by simp; omega
 rw [List.append_assoc, List.getElem?_append, ht]
 split
 ·rw [List.getElem?_take, if_pos ‹_›]
 ·rw [List.getElem?_append]
  split
  ·rw [if_pos (by omega)]
  ·rw [if_neg (by omega), List.getElem?_drop]
   congr 1; omega
theorem setRow_kept {g : Nat} {cs cells : Array Value} {el : TypeId} {fr : Nat × Nat} (hg : w.heap[g]? = some (.cells cells el fr)) (hs : cs.size = cells.size) : Kept (fun b => b = g) w (w.setRow g cs) :=
 ⟨rfl, rfl, rfl, by simp, fun k _ hk => setRow_other w g k cs hk, fun k c el' fr' hk => by
  by_cases e : k = g
  ·subst e
   rw [hg] at hk; cases hk
   exact ⟨cs, setRow_heap w k cells cs el fr hg, hs⟩
  ·exact ⟨c, (setRow_other w g k cs e).trans hk, rfl⟩⟩
theorem writeC_law (h : RelAt F0 M W0 F ρ s a w) {r : RK} {c c' : Cont} (hr : s.cont r = some c) {ri : RI} (hρ : ρ r = some ri) {p : Nat × Nat} (hA : ri.A = some p) (hsub : ri.sub = []) {cells cells' : Array Value} {el : TypeId}
  (hb : w.heap[p.1]? = some (.cells cells el (0, 0))) (hs' : cells'.size = cells.size) {s1 s2 : St} (hd : Sets s r none s1) (hl : Sets s1 r (some c') s2)
  (hc : (∀ b, F b → ∀ j v, mem w b j = some v → mem (w.setRow p.1 cells') b j = some v) → (w.setRow p.1 cells').heap[p.1]? = some (.cells cells' el (0, 0)) → CRep F (w.setRow p.1 cells') ρ ri c') :
  RelAt F0 M W0 F ρ s2 a (w.setRow p.1 cells') := by
 have hown := h.cown r c ri p.1 hr hρ (RI.blkA hA)
 have hne : ∀ q c', s1.cont q = some c' → q ≠ r ∧ s.cont q = some c' := fun q c' hq => by
  rw [hd.cont] at hq
  split at hq
  ·cases hq
  ·rename_i e; exact ⟨e, hq⟩
 have hk := (h.dead hd).world (fun b => b = p.1) (setRow_kept (g := p.1) (cs := cells') hb hs') (fun b hb' => by
  subst hb'
  refine ⟨hown.1, fun q c2 ri2 hq h1 h2 => ?_, fun hl => hown.2.elim (fun h3 => absurd hl (by omega)) id⟩
  obtain ⟨hn, hq'⟩ := hne q c2 hq
  exact hn (h.csep q r c2 c ri2 ri _ hq' hr h1 hρ h2 (RI.blkA hA)))
 have hb2 := setRow_heap w p.1 cells cells' el (0, 0) hb
 have hF : ∀ b, F b → ∀ j v, mem w b j = some v → mem (w.setRow p.1 cells') b j = some v := fun b hb' j v hv => by
  rw [mem_of_block (setRow_other w p.1 b cells' (fun e => hown.1 (e ▸ hb')))]; exact hv
 refine hk.alive ri c' hl (by rw [hd.cont, if_pos rfl]) hρ (hc hF hb2) (fun b hb' => ?_)
 obtain ⟨p', hp', rfl⟩ := blk_nosub hsub hb'
 rw [hA] at hp'; cases hp'
 refine ⟨hown.1, hown.2, fun q c2 ri2 hq h1 h2 => ?_⟩
 obtain ⟨hn, hq'⟩ := hne q c2 hq
 exact hn (h.csep q r c2 c ri2 ri _ hq' hr h1 hρ h2 (RI.blkA hA))
theorem sets_dead {r : Nat} : Sets s r none (s.setObj r .dead) := sets_reg (o := .dead)
theorem sets_live {r : Nat} {c : Cont} : Sets s r (some c) (s.setObj r (.live c)) := sets_reg (o := .live c)
theorem write_law (h : RelAt F0 M W0 F ρ s a w) {r : RK} {ob ob' : OB} (hr : s.obj r = some ob) {ri : RI} (hρ : ρ r = some ri) (ho : ORep F w ρ ri ob) {p : Nat × Nat} (hA : ri.A = some p) {cells cells' : Array Value} {el : TypeId}
  (hb : w.heap[p.1]? = some (.cells cells el (0, 0))) (hsz : p.2 + ri.c * ri.sz ≤ cells.size) (hs' : cells'.size = cells.size) (ht : ob'.t = ob.t) (hn : ob'.xs.length = ob.xs.length) {s1 s2 : St} (hd : Sets s r none s1) (hl : Sets s1 r (some (.arr ob')) s2)
  (hx : ∀ (i : Nat) x, ob'.xs[i]? = some x → ∃ ds, (∀ (j : Nat) v, ds[j]? = some v → cells'[p.2 + i * ri.sz + j]? = some v) ∧ Rep F (mem w) ρ ob'.t x ds) :
  RelAt F0 M W0 F ρ s2 a (w.setRow p.1 cells') := by
 refine writeC_law h (St.obj_cont.1 hr) hρ hA ho.sub hb hs' hd hl fun hF hb2 => ⟨by rw [ho.n, hn], by rw [ho.sz, ht], ho.le, by rw [ht]; exact ho.pure, ho.none, ho.raw, fun p' hp' => ?_, fun p' hp' i x hi => ?_, ho.sub⟩
 ·rw [hA] at hp'; cases hp'
  exact ⟨cells', el, hb2, by rw [hs']; exact hsz⟩
 ·rw [hA] at hp'; cases hp'
  obtain ⟨ds, h1, h2⟩ := hx i x hi
  refine ⟨ds, fun j v hj => ?_, Rep.mono (fun _ h => h) hF (fun _ _ h => h) _ _ _ h2⟩
  have := h1 j v hj
  simp only [mem, World.cell?, hb2]
  simpa using this
theorem mem_cells {b j : Nat} {cells : Array Value} {el : TypeId} {fr : Nat × Nat} {v : Value} (hb : w.heap[b]? = some (.cells cells el fr)) (h : mem w b j = some v) : cells[j]? = some v := by
 simpa [mem, World.cell?, hb] using h
def DoneU (P : Program) (F0 : Bs) (M : Nat → Prop) (W0 : World) (a : Act) (w : World) (id : Nat) (e : Eff R) (sm : Sem Unit) : Prop :=
 ∀ v, e.k.c = some v → ∃ w' F' ρ', sm.run P w = .ok () w' ∧ ∀ d, RelAt F0 M W0 F' ρ' (e.out d id v) (a.put d undef) w'
theorem store_row (hT : TabOk P tb) (h : RelAt F0 M W0 F ρ s a w) {k : RK} {ob : OB} (hob : s.obj k = some ob) {ri : RI} {p : Nat × Nat} (h1 : ρ k = some ri) (h2 : ri.A = some p) {ix o t : Nat} {i : TI} (hi : tb.get t = some i) {old : ob.t.den} (hold : ob.xs[ix]? = some old)
  {l : Lens ob.t} (hl : comp ob.t o i.sz i.agg = some l) {z : l.t.den} {y : Value} (hyc : Rep F (mem w) ρ l.t z y.cells.toList) {s1 s2 : St} (hd : Sets s k none s1) (hlv : Sets s1 k (some (.arr ⟨ob.t, ob.xs.set ix (l.p old z)⟩)) s2) :
  ∃ w', (Instr.storeAt t (.pointer (some (adr (p.1, p.2 + ix * ri.sz + o)))) y).run P w = .ok () w' ∧ RelAt F0 M W0 F ρ s2 a w' := by
 obtain ⟨ri', h1', ho⟩ := h.obj k ob hob
 rw [h1] at h1'; cases h1'
 obtain ⟨ds, h4, h5⟩ := ho.cells p h2 _ old hold
 obtain ⟨z1, z2, c1, c2, c3, e1, e2, h6, hput⟩ := comp_law _ _ _ _ _ hl old ds h5
 obtain ⟨cells, el, hb, hsz⟩ := ho.block p h2
 have hlen := Rep.length _ _ _ hyc
 have hone : ∀ c ∈ y.cells.toList, c.oneCell' = true := Rep.one _ _ _ (comp_cell _ _ _ _ _ hl (hold_cell ho.pure)) hyc
 obtain ⟨info, i1, i2, _⟩ := (hT t i hi).info
 have hds := Rep.length _ _ _ h5
 have hc2 := Rep.length _ _ _ h6
 have hin : ix < ri.n := by
  rw [ho.n]
  rcases Nat.lt_or_ge ix ob.xs.length with h8 | h8
  ·exact h8
  ·simp [List.getElem?_eq_none h8] at hold
 have hfit : p.2 + ix * ri.sz + ri.sz ≤ cells.size := by
  have : (ix + 1) * ri.sz ≤ ri.c * ri.sz := Nat.mul_le_mul_right _ (by have := ho.le; omega)
  rw [Nat.add_mul] at this; omega
 have hoff : o + y.cells.size ≤ ri.sz := by
  rw [ho.sz, ← hds, e1]; simp [e2]; rw [← Array.length_toList, hlen]; omega
 have hst := run_storeCells_at P p.1 (p.2 + ix * ri.sz + o) el y.cells.toList 0 cells w hb (by simp; omega) hone
 have hrun : (Instr.storeAt t (.pointer (some (adr (p.1, p.2 + ix * ri.sz + o)))) y).run P w = .ok () (w.setRow p.1 (cells.toList.take (p.2 + ix * ri.sz + o + 0) ++ y.cells.toList ++ cells.toList.drop (p.2 + ix * ri.sz + o + 0 + y.cells.toList.length)).toArray) := by
  simp only [Instr.storeAt, Instr.sureAddr, Sem.run_bind, Sem.run_pure, Result.andThen_ok, storeVar]
  have hsz' : (sizeOf t).run P w = .ok y.cells.size w := by
   rw [run_sizeOf i1, i2, ← Array.length_toList, hlen, z1]
  simp only [hsz', Result.andThen_ok, ne_eq, not_true_eq_false, if_false]
  exact hst
 have hrel : RelAt F0 M W0 F ρ s2 a (w.setRow p.1 (cells.toList.take (p.2 + ix * ri.sz + o + 0) ++ y.cells.toList ++ cells.toList.drop (p.2 + ix * ri.sz + o + 0 + y.cells.toList.length)).toArray) := by
  refine write_law (ob' := ⟨ob.t, ob.xs.set ix (l.p old z)⟩) h hob h1 ho h2 hb hsz ?_ rfl ?_ hd hlv ?_
  ·simp only [List.size_toArray, List.length_append, List.length_take, List.length_drop, Array.length_toList]
   omega
  ·simp
  ·intro i x hi
   simp only [List.getElem?_set] at hi
   have hq' : (p.2 + ix * ri.sz + o + 0) + y.cells.toList.length ≤ cells.toList.length := by simp; omega
   have hcell : ∀ k, ((cells.toList.take (p.2 + ix * ri.sz + o + 0) ++ y.cells.toList ++ cells.toList.drop (p.2 + ix * ri.sz + o + 0 + y.cells.toList.length)).toArray)[k]? =
     if k < p.2 + ix * ri.sz + o + 0 then cells[k]? else if k < p.2 + ix * ri.sz + o + 0 + y.cells.toList.length then y.cells.toList[k - (p.2 + ix * ri.sz + o + 0)]? else cells[k]? := fun k => by
    rw [List.getElem?_toArray, seg_get hq']; simp
   split at hi
   ·rename_i e
    subst e
    split at hi
    ·cases hi
     refine ⟨_, fun j v hj => ?_, hput z _ hyc⟩
     rw [hcell]
     have hl1 : y.cells.toList.length = c2.length := by rw [hlen, hc2]
     have hj' : (c1 ++ y.cells.toList ++ c3)[j]? = some v := hj
     rw [List.append_assoc, List.getElem?_append] at hj'
     split at hj'
     ·rename_i hj1
      rw [if_pos (by omega)]
      refine mem_cells hb (h4 j v ?_)
      rw [e1, List.append_assoc, List.getElem?_append_left hj1]; exact hj'
     ·rename_i hj1
      rw [List.getElem?_append] at hj'
      split at hj'
      ·rename_i hj2
       rw [if_neg (by omega), if_pos (by omega)]
       rw [show p.2 + ix * ri.sz + j - (p.2 + ix * ri.sz + o + 0) = j - c1.length by omega]
       exact hj'
      ·rename_i hj2
       rw [if_neg (by omega), if_neg (by omega)]
       refine mem_cells hb (h4 j v ?_)
       rw [e1, List.append_assoc, List.getElem?_append_right (by omega), List.getElem?_append_right (by omega), ← hl1]; exact hj'
    ·cases hi
   ·rename_i hne
    obtain ⟨ds2, h8, h9⟩ := ho.cells p h2 i x hi
    have hl2 := Rep.length _ _ _ h9
    refine ⟨ds2, fun j v hj => ?_, h9⟩
    have hjl : j < ri.sz := by
     rw [ho.sz, ← hl2]
     rcases Nat.lt_or_ge j ds2.length with h10 | h10
     ·exact h10
     ·simp [List.getElem?_eq_none h10] at hj
    have hout : i * ri.sz + j < ix * ri.sz ∨ ix * ri.sz + ri.sz ≤ i * ri.sz + j := by
     rcases Nat.lt_or_gt_of_ne hne with h10 | h10
     ·right
      have : (ix + 1) * ri.sz ≤ i * ri.sz := Nat.mul_le_mul_right _ h10
      rw [Nat.add_mul] at this; omega
     ·left
      have : (i + 1) * ri.sz ≤ ix * ri.sz := Nat.mul_le_mul_right _ h10
      rw [Nat.add_mul] at this; omega
    have hg := mem_cells hb (h8 j v hj)
    have hlen' : y.cells.toList.length + o ≤ ri.sz := by simp; omega
    rw [hcell]
    split
    ·exact hg
    ·rw [if_neg (by omega)]; exact hg
 exact ⟨_, hrun, hrel⟩
theorem store_law (hT : TabOk P tb) (h : RelAt F0 M W0 F ρ s a w) {t : Nat} {x y : Operand} {e : Eff R} (he : opStore tb t x y s = some e) :
  DoneU P F0 M W0 a w id e (Instr.storeAt t (a.eval x) (a.eval y)) := by
 unfold opStore at he
 split at he
 ·rename_i i pn o v yv hi hx hy
  split at he
  ·rename_i z s' hz
   split at he
   ·rename_i q hq
    split at he
    ·rename_i l hl
     split at he
     ·rename_i u hu
      cases he
      obtain ⟨F', ρ', hF, hρ, h', hp, hr⟩ := toHold_law h hz (ev_law h hy).1
      intro r hv
      simp only [Cnd.map, Cnd.look] at hv
      cases hk : pget q.l v.1 v.2 with
      | none => rw [hk] at hv; simp at hv
      | some old =>
       rw [hk] at hv
       obtain rfl := Option.some.inj hv
       obtain ⟨xs, hxs, hix, hold⟩ := pget_some hk
       obtain ⟨ri, p, h1, h2, h3⟩ := evPdd h hx
       have hlt := pl_lt hxs
       have hd := sets_pl (s := s') (o := none) hq hlt
       have hlv := sets_pl (s := s'.setPl pn ⟨q.t, q.l.set v.1 none⟩) (q := ⟨q.t, q.l.set v.1 none⟩) (i := v.1) (o := some (xs.set v.2.toNat (l.p old u))) (by rw [pol_setPl, if_pos rfl]) (by simpa using hlt)
       rw [setPl_setPl] at hlv
       have e1 : (q.l.set v.1 none).set v.1 (some (xs.set v.2.toNat (l.p old u))) = pset q.l v.1 v.2 (l.p old u) := by
        unfold pset; rw [hxs]; simp
       obtain ⟨w', g1, g2⟩ := store_row hT h' (obj_pl hq hxs) (hρ _ _ h1) h2 hi hold hl (coe_law _ _ _ _ _ hu hr.cells) hd hlv
       refine ⟨w', F', ρ', by rw [h3]; exact g1, fun d => ?_⟩
       have e2 : (q.l.set v.1 none).set v.1 (some (xs.set v.2.toNat (l.p old u))) = pset q.l v.1 v.2 (l.p old u) := e1
       simp only [e2] at g2
       exact RelAt.put g2 d ⟨.any, ()⟩ undef trivial
     ·cases he
    ·cases he
   ·cases he
  ·cases he
 ·rename_i i r o ix yv hi hx hy
  split at he
  ·rename_i z s' hz
   split at he
   ·rename_i ob hob
    split at he
    ·rename_i l hl
     split at he
     ·rename_i q hq
      cases he
      obtain ⟨F', ρ', hF, hρ, h', hp, hr⟩ := toHold_law h hz (ev_law h hy).1
      intro v hv
      simp only [Eff.upd, Cnd.map, Cnd.look] at hv
      cases hk : lk ob.xs ix with
      | none => rw [hk] at hv; simp at hv
      | some old =>
       rw [hk] at hv
       obtain rfl := Option.some.inj hv
       obtain ⟨hix, hold⟩ := lk_some hk
       obtain ⟨ri, p, h1, h2, h3⟩ := evOad h hx
       obtain ⟨w', g1, g2⟩ := store_row hT h' hob (hρ _ _ h1) h2 hi hold hl (coe_law _ _ _ _ _ hq hr.cells) sets_dead sets_live
       exact ⟨w', F', ρ', by rw [h3]; exact g1, fun d => RelAt.put g2 d ⟨.any, ()⟩ undef trivial⟩
     ·cases he
    ·cases he
   ·cases he
  ·cases he
 ·rename_i i r o u yv hi hx hy
  split at he
  ·rename_i b hbx
   split at he
   ·rename_i z hz
    split at he
    ·rename_i hyc
     cases he
     intro v hv
     simp only [Eff.ubox, Cnd.map, Cnd.ret, Option.map_some] at hv
     obtain rfl := Option.some.inj hv
     obtain ⟨ri, p, h1, h2, h3⟩ := evPad h hx
     obtain ⟨ri', h1', ho⟩ := h.box r b hbx
     rw [h1] at h1'; cases h1'
     obtain ⟨p', ds, cells, el, g1, g2, g3, g4, g5⟩ := ho.ex
     rw [h2] at g1; cases g1
     have hyr := RepV.cells hyc (ev_law h hy).1
     have hlen := Rep.length _ _ _ hyr
     have hone := Rep.one _ _ _ hyc hyr
     obtain ⟨q1, q2, q3, q4, c1, c2, c3, e1, e2, e3, e4⟩ := repl_law hyr b.t b.v o i.sz i.agg z hz ds g5
     obtain ⟨info, i1, i2, _⟩ := (hT t i hi).info
     have hds := Rep.length _ _ _ g5
     have hfit : o + (a.eval y).cells.toList.length + c3.length = b.t.size := by
      rw [← hds, e1]; simp only [List.length_append]; rw [e2, hlen, q1, e3]
     have hst := run_storeCells_at P p.1 (p.2 + o) el (a.eval y).cells.toList 0 cells w g2 (by omega) hone
     have hrun : (Instr.storeAt t (a.eval x) (a.eval y)).run P w = .ok () (w.setRow p.1 (cells.toList.take (p.2 + o + 0) ++ (a.eval y).cells.toList ++ cells.toList.drop (p.2 + o + 0 + (a.eval y).cells.toList.length)).toArray) := by
      simp only [Instr.storeAt, Instr.sureAddr, h3, Sem.run_bind, Sem.run_pure, Result.andThen_ok, storeVar]
      have hsz' : (sizeOf t).run P w = .ok (a.eval y).cells.size w := by
       rw [run_sizeOf i1, i2, ← Array.length_toList, hlen, q1]
      simp only [hsz', Result.andThen_ok, ne_eq, not_true_eq_false, if_false]
      exact hst
     have hq' : (p.2 + o + 0) + (a.eval y).cells.toList.length ≤ cells.toList.length := by
      simp only [Array.length_toList] at hfit ⊢; omega
     have hcell : ∀ k, ((cells.toList.take (p.2 + o + 0) ++ (a.eval y).cells.toList ++ cells.toList.drop (p.2 + o + 0 + (a.eval y).cells.toList.length)).toArray)[k]? =
       if k < p.2 + o + 0 then cells[k]? else if k < p.2 + o + 0 + (a.eval y).cells.toList.length then (a.eval y).cells.toList[k - (p.2 + o + 0)]? else cells[k]? := fun k => by
      rw [List.getElem?_toArray, seg_get hq']; simp
     have hszc : ((cells.toList.take (p.2 + o + 0) ++ (a.eval y).cells.toList ++ cells.toList.drop (p.2 + o + 0 + (a.eval y).cells.toList.length)).toArray).size = cells.size := by
      simp only [List.size_toArray, List.length_append, List.length_take, List.length_drop, Array.length_toList] at hq' ⊢
      omega
     have hzl := Rep.length _ _ _ e4
     have hzs : z.t.size = b.t.size := by
      rw [← hzl]; simp only [List.length_append]; omega
     refine ⟨_, F, ρ, hrun, fun d => RelAt.put ?_ d ⟨.any, ()⟩ _ trivial⟩
     refine writeC_law (c' := .box z) h (St.bx_cont.1 hbx) h1 h2 ho.sub g2 hszc sets_dead sets_live fun hF hb2 => ⟨ho.bare, q3 ho.cell hyc, p, _, _, el, h2, hb2, by rw [hszc, hzs]; exact g3, fun j v hj => ?_, Rep.mono (fun _ h => h) hF (fun _ _ h => h) _ _ _ e4⟩
     simp only [mem, World.cell?, hb2]
     show (if (none : Option Nat).isSome = true then none else _) = some v
     simp only [Option.isSome_none, Bool.false_eq_true, if_false]
     rw [hcell]
     have hj' := hj
     rw [List.append_assoc, List.getElem?_append] at hj'
     split at hj'
     ·rename_i hj1
      rw [if_pos (by omega)]
      refine mem_cells g2 (g4 j v ?_)
      rw [e1, List.append_assoc, List.getElem?_append_left hj1]; exact hj'
     ·rename_i hj1
      rw [List.getElem?_append] at hj'
      split at hj'
      ·rename_i hj2
       rw [if_neg (by omega), if_pos (by omega)]
       rw [show p.2 + j - (p.2 + o + 0) = j - c1.length by omega]
       exact hj'
      ·rename_i hj2
       rw [if_neg (by omega), if_neg (by omega)]
       refine mem_cells g2 (g4 j v ?_)
       have hl2 : (a.eval y).cells.toList.length = c2.length := by rw [hlen, q1, e3]
       rw [e1, List.append_assoc, List.getElem?_append_right (by omega), List.getElem?_append_right (by omega), ← hl2]; exact hj'
    ·cases he
   ·cases he
  ·cases he
 ·cases he
end Go.Vu
