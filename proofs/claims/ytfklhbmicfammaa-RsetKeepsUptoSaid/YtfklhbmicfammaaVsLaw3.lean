/- Value semantics, part 8: what each operation does, one by one. -/
import Derived.Test.YtfklhbmicfammaaVsLaw2
set_option linter.unusedVariables false
namespace Go.Vs
open Go

variable {P : Program} {tb : Tab} {R : Type} {F0 M F : Nat → Prop} {W0 w w' : World} {ρ : Nat → Option RI} {s : St} {a : Act} {m : Nat → Nat → Option Value} {id : Nat}

theorem lk_some {α : Type} {xs : List α} {i : Int} {x : α} (h : lk xs i = some x) : 0 ≤ i ∧ xs[i.toNat]? = some x := by
  unfold lk at h
  split at h
  · exact ⟨‹_›, h⟩
  · cases h

theorem move_law (h : RelAt F0 M W0 F ρ s a w) {x : Operand} {e : Eff R} (he : opMove x s = some e) : Done P F0 M W0 a w id e (pure (a.eval x)) := by
  unfold opMove at he
  split at he
  · rename_i y hy
    cases he
    refine done_one h fun u hu => ⟨_, rfl, ?_⟩
    cases hu
    exact (ev_law h hy).1
  · cases he

theorem evBool (h : RelAt F0 M W0 F ρ s a w) {x : Operand} {b : Bool} (hy : ev s x = some ⟨.bool, b⟩) : a.eval x = .bool b := by
  obtain ⟨h1, h2⟩ := (ev_law h hy).1
  simpa [Rep] using h2
theorem evInt (h : RelAt F0 M W0 F ρ s a w) {x : Operand} {k : IntKind} {n : Int} (hy : ev s x = some ⟨.int k, n⟩) : a.eval x = .int k n := by
  obtain ⟨h1, h2⟩ := (ev_law h hy).1
  simpa [Rep] using h2
theorem evStr (h : RelAt F0 M W0 F ρ s a w) {x : Operand} {l : List UInt8} (hy : ev s x = some ⟨.str, l⟩) : a.eval x = .string ⟨l.toArray⟩ := by
  obtain ⟨h1, h2⟩ := (ev_law h hy).1
  simpa [Rep] using h2
theorem evNils (h : RelAt F0 M W0 F ρ s a w) {x : Operand} {u : Unit} (hy : ev s x = some ⟨.nils, u⟩) : a.eval x = .slice none 0 0 := by
  obtain ⟨h1, h2⟩ := (ev_law h hy).1
  simpa [Rep] using h2
theorem evOad (h : RelAt F0 M W0 F ρ s a w) {x : Operand} {r o : Nat} {i : Int} (hy : ev s x = some ⟨.oad r o, i⟩) :
    ∃ ri p, ρ r = some ri ∧ ri.A = some p ∧ a.eval x = .pointer (some (adr (p.1, p.2 + i.toNat * ri.sz + o))) := by
  obtain ⟨h1, ri, p, h2, h3, h4⟩ := (ev_law h hy).1
  exact ⟨ri, p, h2, h3, by simpa using h4⟩
theorem evRad (h : RelAt F0 M W0 F ρ s a w) {x : Operand} {T : Ty} {o : Nat} {v : T.den} (hy : ev s x = some ⟨.rad T o, v⟩) :
    ∃ (p : Nat × Nat) (ds : List Value), a.eval x = .pointer (some (adr (p.1, p.2 + o))) ∧ F p.1 ∧ CellsAt (mem w) p.1 p.2 ds ∧ Rep F (mem w) ρ T v ds := by
  obtain ⟨h1, p, ds, h2, h3⟩ := (ev_law h hy).1
  exact ⟨p, ds, by simpa using h2, h3⟩
theorem evSlice (h : RelAt F0 M W0 F ρ s a w) {x : Operand} {T : Ty} {xs : List T.den} (hy : ev s x = some ⟨.slice T, xs⟩) :
    ∃ A n c, a.eval x = .slice A n c ∧ n = xs.length ∧ n ≤ c ∧
      (n ≠ 0 → ∃ p, A = some (adr p) ∧ F p.1 ∧ ∀ (i : Nat) x, xs[i]? = some x → ∃ ds, CellsAt (mem w) p.1 (p.2 + i * T.size) ds ∧ Rep F (mem w) ρ T x ds) := by
  obtain ⟨h1, A, n, c, h2, h3⟩ := (ev_law h hy).1
  exact ⟨A, n, c, by simpa using h2, h3⟩
theorem evOw (h : RelAt F0 M W0 F ρ s a w) {x : Operand} {r : Nat} {u : Unit} (hy : ev s x = some ⟨.ow r, u⟩) : ∃ ri, ρ r = some ri ∧ a.eval x = ri.val := by
  obtain ⟨h1, ri, h2, h3⟩ := (ev_law h hy).1
  exact ⟨ri, h2, by simpa using h3⟩
theorem evOsl (h : RelAt F0 M W0 F ρ s a w) {x : Operand} {r : Nat} {v : Nat × Nat} (hy : ev s x = some ⟨.osl r, v⟩) :
    ∃ ri A c, ρ r = some ri ∧ a.eval x = .slice A v.2 c ∧ v.2 ≤ c ∧ v.1 + c ≤ ri.c ∧ v.1 + v.2 ≤ ri.n ∧ (c = 0 ∨ ∃ p, ri.A = some p ∧ A = some (adr (p.1, p.2 + v.1 * ri.sz))) ∧ ri.n ≤ v.1 + c := by
  obtain ⟨h1, ri, h2, A, c, h3, h4⟩ := (ev_law h hy).1
  exact ⟨ri, A, c, h2, by simpa using h3, h4⟩

theorem pick_law (h : RelAt F0 M W0 F ρ s a w) {c x y : Operand} {e : Eff R} (he : opPick c x y s = some e) :
    Done P F0 M W0 a w id e (do pure (if ← asBool (a.eval c) then a.eval x else a.eval y)) := by
  unfold opPick at he
  split at he
  · rename_i cb hc
    have hcv := evBool h hc
    split at he
    · rename_i u v hu hv
      split at he
      · rename_i ht
        cases he
        refine done_one h fun z hz => ⟨_, by simp [hcv, asBool]; rfl, ?_⟩
        cases hz
        cases cb
        · obtain ⟨t, v⟩ := v
          simp only at ht
          subst ht
          exact (ev_law h hv).1
        · exact (ev_law h hu).1
      · cases he
    · rename_i u hu hv
      cases he
      refine done_one h fun z hz => ⟨_, by simp [hcv, asBool]; rfl, ?_⟩
      cases cb
      · cases hz
      · cases hz; exact (ev_law h hu).1
    · rename_i v hu hv
      cases he
      refine done_one h fun z hz => ⟨_, by simp [hcv, asBool]; rfl, ?_⟩
      cases cb
      · cases hz; exact (ev_law h hv).1
      · cases hz
    · cases he
  · cases he

theorem run_newRow (el : TypeId) (cs : Array Value) : (newRow el cs).run P w = .ok (adr (w.heap.size, 0)) (w.alloc (.cells cs el)) := rfl
theorem run_newVar (el : TypeId) (v : Value) : (newVar el v).run P w = .ok (adr (w.heap.size, 0)) (w.alloc (.cells v.cells el)) := rfl
theorem run_zeroValue {t : TypeId} {info : TypeInfo} {z : Value} (h : P.info? t = some info) (hz : info.zero = some z) : (zeroValue t).run P w = .ok z w := by
  simp [zeroValue, typeInfo, program, Sem.run, h, hz]
theorem run_typeInfo {t : TypeId} {info : TypeInfo} (h : P.info? t = some info) : (typeInfo t).run P w = .ok info w := by
  simp [typeInfo, program, Sem.run, h]
theorem run_sizeOf {t : TypeId} {info : TypeInfo} (h : P.info? t = some info) : (sizeOf t).run P w = .ok info.size w := by
  simp [sizeOf, run_typeInfo h]
theorem ext_same {r : Nat} {ri : RI} : ext ρ r ri r = some ri := by simp [ext]

theorem alloc_law (hT : TabOk P tb) (h : RelAt F0 M W0 F ρ s a w) (hf : s.objs[id]? = some .fresh) {t : Nat} {e : Eff R} (he : opAlloc tb t id s = some e) :
    Done P F0 M W0 a w id e (Instr.alloc t true (.tuple #[])) := by
  unfold opAlloc at he
  split at he
  · rename_i i hi
    split at he
    · rename_i hp
      cases he
      obtain ⟨info, h1, h2, h3, h4⟩ := (hT t i hi).info
      obtain ⟨z, hz, hz'⟩ := h4 (by cases hh : i.ty <;> simp [hh, Ty.pure, isAny] at hp ⊢)
      refine done_new h hf hp fun u hu => ?_
      cases hu
      have hr := (hz' F (mem w) ρ).cells
      refine ⟨.pointer (some (adr (w.heap.size, 0))), w, z.cells, t, 1, Kept.refl _ _, ?_, by simp, by rw [← Rep.length _ _ _ hr]; simp, fun j x hj => ?_, ?_⟩
      · simp only [Instr.alloc, Sem.run_bind, run_zeroValue h1 hz, Result.andThen_ok, run_newVar, Sem.run_pure]
      · have : j = 0 := by
          rcases Nat.lt_or_ge j 1 with h5 | h5
          · omega
          · rw [List.getElem?_eq_none (by simpa using h5)] at hj; cases hj
        subst this
        cases hj
        exact ⟨_, fun j v hv => by simpa using hv, hr⟩
      · exact ⟨rfl, _, (w.heap.size, 0), ext_same, rfl, by simp [adr]⟩
    · cases he
  · cases he

theorem box_law (h : RelAt F0 M W0 F ρ s a w) (hf : s.objs[id]? = some .fresh) {t : Nat} {x : Operand} {e : Eff R} (he : opBox x id s = some e) :
    Done P F0 M W0 a w id e (Instr.box t (a.eval x)) := by
  unfold opBox at he
  split at he
  · rename_i y hy
    split at he
    · rename_i z s' hz
      cases he
      obtain ⟨F', hF, h', hp, hr⟩ := toPure_law h hz (ev_law h hy).1
      have hf' : s'.objs[id]? = some .fresh := toPure_fresh hz hf
      refine done_new h' hf' hp fun u hu => ?_
      cases hu
      have hr := hr.cells
      refine ⟨.pointer (some (adr (w.heap.size, 0))), w, (a.eval x).cells, t, 1, Kept.refl _ _, ?_, by simp, by rw [← Rep.length _ _ _ hr]; simp, fun j x hj => ?_, ?_⟩
      · simp only [Instr.box, Sem.run_bind, Result.andThen_ok, run_newVar, Sem.run_pure]
      · have : j = 0 := by
          rcases Nat.lt_or_ge j 1 with h5 | h5
          · omega
          · rw [List.getElem?_eq_none (by simpa using h5)] at hj; cases hj
        subst this
        cases hj
        exact ⟨_, fun j v hv => by simpa using hv, hr⟩
      · exact ⟨rfl, _, (w.heap.size, 0), ext_same, rfl, by simp [adr]⟩
    · cases he
  · cases he
 where
  toPure_fresh {x : TV} {y : TV} {s s' : St} {id : Nat} (hz : toPure s x = some (y, s')) (hf : s.objs[id]? = some .fresh) : s'.objs[id]? = some .fresh := by
    have key : ∀ r ob, s.obj r = some ob → (s.frz r ob).objs[id]? = some .fresh := fun r ob hr => by
      have : r ≠ id := fun e => by subst e; simp [St.obj, hf] at hr
      simp [St.frz, List.getElem?_set_ne this, hf]
    unfold toPure at hz
    split at hz
    · cases hz; exact hf
    · obtain ⟨t, v⟩ := x
      cases t with
      | ow r =>
        simp only at hz
        cases hob : s.obj r with
        | none => simp [hob] at hz
        | some ob => simp only [hob] at hz; cases hz; exact key r ob hob
      | osl r =>
        simp only at hz
        cases hob : s.obj r with
        | none => simp [hob] at hz
        | some ob => simp only [hob] at hz; cases hz; exact key r ob hob
      | oad r o =>
        simp only at hz
        cases hob : s.obj r with
        | none => simp [hob] at hz
        | some ob =>
          obtain ⟨t, xs⟩ := ob
          match xs, hob with
          | [], hob => simp [hob] at hz
          | [y'], hob =>
            simp only [hob] at hz
            split at hz
            · cases hz; exact key r _ hob
            · cases hz
          | y1 :: y2 :: r', hob => simp [hob] at hz
      | _ => cases hz

theorem load_op (hT : TabOk P tb) (h : RelAt F0 M W0 F ρ s a w) {t : Nat} {x : Operand} {e : Eff R} (he : opLoad tb t x s = some e) :
    Done P F0 M W0 a w id e (Instr.loadAt t (a.eval x)) := by
  unfold opLoad at he
  split at he
  · rename_i i r o ix hi hx
    split at he
    · rename_i ob hob
      split at he
      · rename_i l hl
        cases he
        refine done_one h fun u hu => ?_
        simp only [Cnd.map, Cnd.look] at hu
        cases hk : lk ob.xs ix with
        | none => simp [hk] at hu
        | some old =>
          simp only [hk, Option.map_some, Option.some.injEq] at hu
          subst hu
          obtain ⟨hix, hold⟩ := lk_some hk
          obtain ⟨ri, p, h1, h2, h3⟩ := evOad h hx
          obtain ⟨ri', h1', ho⟩ := h.obj r ob hob
          rw [h1] at h1'; cases h1'
          obtain ⟨ds, h4, h5⟩ := ho.cells p h2 _ old hold
          obtain ⟨s1, s2, c1, c2, c3, e1, e2, h6, _⟩ := comp_law _ _ _ _ _ hl old ds h5
          subst e1
          have h7 := h4.part
          rw [e2] at h7
          obtain ⟨val, h8, h9⟩ := load_law (P := P) (hT t i hi) s2 s1 (comp_one _ _ _ _ _ hl) (comp_pure _ _ _ _ _ hl ho.pure) (p := (p.1, p.2 + ix.toNat * ri.sz + o)) h7 h6
          exact ⟨val, by simpa [Instr.loadAt, Instr.sureAddr, h3] using h8, RepV.of h9⟩
      · cases he
    · cases he
  · rename_i i T o v hi hx
    split at he
    · rename_i l hl
      split at he
      · rename_i hp
        cases he
        refine done_one h fun u hu => ?_
        cases hu
        obtain ⟨p, ds, h1, h2, h3, h4⟩ := evRad h hx
        obtain ⟨s1, s2, c1, c2, c3, e1, e2, h6, _⟩ := comp_law _ _ _ _ _ hl v ds h4
        subst e1
        have h7 := h3.part
        rw [e2] at h7
        obtain ⟨val, h8, h9⟩ := load_law (P := P) (hT t i hi) s2 s1 (comp_one _ _ _ _ _ hl) (comp_pure _ _ _ _ _ hl hp) (p := (p.1, p.2 + o)) h7 h6
        exact ⟨val, by simpa [Instr.loadAt, Instr.sureAddr, h1] using h8, RepV.of h9⟩
      · cases he
    · cases he
  · cases he

theorem seg_get {α : Type} {l vs : List α} {q k : Nat} (hq : q + vs.length ≤ l.length) : (l.take q ++ vs ++ l.drop (q + vs.length))[k]? = if k < q then l[k]? else if k < q + vs.length then vs[k - q]? else l[k]? := by
  have ht : (l.take q).length = q := by simp; omega
  rw [List.append_assoc, List.getElem?_append, ht]
  split
  · rw [List.getElem?_take, if_pos ‹_›]
  · rw [List.getElem?_append]
    split
    · rw [if_pos (by omega)]
    · rw [if_neg (by omega), List.getElem?_drop]
      congr 1; omega

theorem setRow_kept {g : Nat} {cs cells : Array Value} {el : TypeId} {fr : Nat × Nat} (hg : w.heap[g]? = some (.cells cells el fr)) (hs : cs.size = cells.size) : Kept (fun b => b = g) w (w.setRow g cs) :=
  ⟨rfl, rfl, rfl, by simp, fun k _ hk => setRow_other w g k cs hk, fun k c el' fr' hk => by
    by_cases e : k = g
    · subst e
      rw [hg] at hk; cases hk
      exact ⟨cs, setRow_heap w k cells cs el fr hg, hs⟩
    · exact ⟨c, (setRow_other w g k cs e).trans hk, rfl⟩⟩

/- - a region's row is written anew -/
theorem write_law (h : RelAt F0 M W0 F ρ s a w) {r : Nat} {ob ob' : OB} (hr : s.obj r = some ob) {ri : RI} (hρ : ρ r = some ri) (ho : ORep F w ρ ri ob) {p : Nat × Nat} (hA : ri.A = some p) {cells cells' : Array Value} {el : TypeId}
    (hb : w.heap[p.1]? = some (.cells cells el (0, 0))) (hsz : p.2 + ri.c * ri.sz ≤ cells.size) (hs' : cells'.size = cells.size) (ht : ob'.t = ob.t) (hn : ob'.xs.length = ob.xs.length)
    (hx : ∀ (i : Nat) x, ob'.xs[i]? = some x → ∃ ds, (∀ (j : Nat) v, ds[j]? = some v → cells'[p.2 + i * ri.sz + j]? = some v) ∧ Rep F (mem w) ρ ob'.t x ds) :
    RelAt F0 M W0 F ρ ((s.setObj r .dead).setObj r (.live ob')) a (w.setRow p.1 cells') := by
  have hlt := St.obj_lt hr
  have hown := h.own r ob ri p hr hρ hA
  have hne : ∀ q ob', (s.setObj r .dead).obj q = some ob' → q ≠ r ∧ s.obj q = some ob' := fun q ob' hq => by
    by_cases e : r = q
    · subst e; rw [St.obj_setObj_same hlt] at hq; cases hq
    · rw [St.obj_setObj_ne e] at hq; exact ⟨Ne.symm e, hq⟩
  have hk := (h.kill r).world (fun b => b = p.1) (setRow_kept (g := p.1) (cs := cells') hb hs') (fun b hb' => by
    subst hb'
    refine ⟨hown.1, fun q ob2 ri2 p2 hq h1 h2 e => ?_, fun hl => hown.2.elim (fun h3 => absurd hl (by omega)) id⟩
    obtain ⟨hn, hq'⟩ := hne q ob2 hq
    exact hn (h.sep q r ob2 ob ri2 ri p2 p hq' hr h1 hρ h2 hA e))
  have hb2 := setRow_heap w p.1 cells cells' el (0, 0) hb
  have hF : ∀ b, F b → ∀ j v, mem w b j = some v → mem (w.setRow p.1 cells') b j = some v := fun b hb' j v hv => by
    rw [mem_of_block (setRow_other w p.1 b cells' (fun e => hown.1 (e ▸ hb')))]; exact hv
  refine hk.live r ri ob' (by simp [St.setObj, hlt]) hρ ⟨by rw [ho.n, hn], by rw [ho.sz, ht], ho.le, by rw [ht]; exact ho.pure, ho.none, ho.raw, fun p' hp' => ?_, fun p' hp' i x hi => ?_⟩ (fun p' hp' => ⟨?_, ?_, ?_⟩)
  · rw [hA] at hp'; cases hp'
    exact ⟨cells', el, hb2, by rw [hs']; exact hsz⟩
  · rw [hA] at hp'; cases hp'
    obtain ⟨ds, h1, h2⟩ := hx i x hi
    refine ⟨ds, fun j v hj => ?_, Rep.mono (fun _ h => h) hF (fun _ _ h => h) _ _ _ h2⟩
    have := h1 j v hj
    simp only [mem, World.cell?, hb2]
    simpa using this
  · rw [hA] at hp'; cases hp'; exact hown.1
  · rw [hA] at hp'; cases hp'; exact hown.2
  · rw [hA] at hp'; cases hp'
    intro q ob2 ri2 p2 hq h1 h2 e
    obtain ⟨hn, hq'⟩ := hne q ob2 hq
    exact hn (h.sep q r ob2 ob ri2 ri p2 p hq' hr h1 hρ h2 hA e.symm)

theorem mem_cells {b j : Nat} {cells : Array Value} {el : TypeId} {fr : Nat × Nat} {v : Value} (hb : w.heap[b]? = some (.cells cells el fr)) (h : mem w b j = some v) : cells[j]? = some v := by
  simpa [mem, World.cell?, hb] using h

/- - what is asked of an operation that writes -/
def DoneU (P : Program) (F0 M : Nat → Prop) (W0 : World) (a : Act) (w : World) (id : Nat) (e : Eff R) (sm : Sem Unit) : Prop :=
  ∀ v, e.k.c = some v → ∃ w' F' ρ', sm.run P w = .ok () w' ∧ ∀ d, RelAt F0 M W0 F' ρ' (e.out d id v) (a.put d undef) w'

theorem store_law (hT : TabOk P tb) (h : RelAt F0 M W0 F ρ s a w) {t : Nat} {x y : Operand} {e : Eff R} (he : opStore tb t x y s = some e) :
    DoneU P F0 M W0 a w id e (Instr.storeAt t (a.eval x) (a.eval y)) := by
  unfold opStore at he
  split at he
  · rename_i i r o ix yv hi hx hy
    split at he
    · rename_i z s' hz
      split at he
      · rename_i ob hob
        split at he
        · rename_i l hl
          split at he
          · rename_i q hq
            cases he
            obtain ⟨F', hF, h', hp, hr⟩ := toPure_law h hz (ev_law h hy).1
            intro v hv
            simp only [Eff.upd, Cnd.map, Cnd.look] at hv
            cases hk : lk ob.xs ix with
            | none => rw [hk] at hv; simp at hv
            | some old =>
              rw [hk] at hv
              obtain rfl := Option.some.inj hv
              obtain ⟨hix, hold⟩ := lk_some hk
              obtain ⟨ri, p, h1, h2, h3⟩ := evOad h hx
              obtain ⟨ri', h1', ho⟩ := h'.obj r ob hob
              rw [h1] at h1'; cases h1'
              obtain ⟨ds, h4, h5⟩ := ho.cells p h2 _ old hold
              obtain ⟨s1, s2, c1, c2, c3, e1, e2, h6, hput⟩ := comp_law _ _ _ _ _ hl old ds h5
              obtain ⟨cells, el, hb, hsz⟩ := ho.block p h2
              have hyc := coe_law _ _ _ _ _ hq hr.cells
              have hlen := Rep.length _ _ _ hyc
              have hone : ∀ c ∈ (a.eval y).cells.toList, c.oneCell' = true := Rep.one _ _ _ (comp_pure _ _ _ _ _ hl ho.pure) hyc
              obtain ⟨info, i1, i2, _⟩ := (hT t i hi).info
              have hds := Rep.length _ _ _ h5
              have hc2 := Rep.length _ _ _ h6
              have hin : ix.toNat < ri.n := by
                rw [ho.n]
                rcases Nat.lt_or_ge ix.toNat ob.xs.length with h8 | h8
                · exact h8
                · simp [List.getElem?_eq_none h8] at hold
              have hfit : p.2 + ix.toNat * ri.sz + ri.sz ≤ cells.size := by
                have : (ix.toNat + 1) * ri.sz ≤ ri.c * ri.sz := Nat.mul_le_mul_right _ (by have := ho.le; omega)
                rw [Nat.add_mul] at this; omega
              have hoff : o + (a.eval y).cells.size ≤ ri.sz := by
                rw [ho.sz, ← hds, e1]; simp [e2]; rw [← Array.length_toList, hlen]; omega
              have hst := run_storeCells_at P p.1 (p.2 + ix.toNat * ri.sz + o) el (a.eval y).cells.toList 0 cells w hb (by simp; omega) hone
              have hrun : (Instr.storeAt t (a.eval x) (a.eval y)).run P w = .ok () (w.setRow p.1 (cells.toList.take (p.2 + ix.toNat * ri.sz + o + 0) ++ (a.eval y).cells.toList ++ cells.toList.drop (p.2 + ix.toNat * ri.sz + o + 0 + (a.eval y).cells.toList.length)).toArray) := by
                simp only [Instr.storeAt, Instr.sureAddr, h3, Sem.run_bind, Sem.run_pure, Result.andThen_ok, storeVar]
                have hsz' : (sizeOf t).run P w = .ok (a.eval y).cells.size w := by
                  rw [run_sizeOf i1, i2, ← Array.length_toList, hlen, s1]
                simp only [hsz', Result.andThen_ok, ne_eq, not_true_eq_false, if_false]
                exact hst
              have hrel : RelAt F0 M W0 F' ρ ((s'.setObj r .dead).setObj r (.live ⟨ob.t, ob.xs.set ix.toNat (l.p old q)⟩)) a (w.setRow p.1 (cells.toList.take (p.2 + ix.toNat * ri.sz + o + 0) ++ (a.eval y).cells.toList ++ cells.toList.drop (p.2 + ix.toNat * ri.sz + o + 0 + (a.eval y).cells.toList.length)).toArray) := by
                refine write_law h' hob h1 ho h2 hb hsz ?_ rfl ?_ ?_
                · simp only [List.size_toArray, List.length_append, List.length_take, List.length_drop, Array.length_toList]
                  omega
                · simp
                · intro i x hi
                  simp only [List.getElem?_set] at hi
                  have hq' : (p.2 + ix.toNat * ri.sz + o + 0) + (a.eval y).cells.toList.length ≤ cells.toList.length := by simp; omega
                  have hcell : ∀ k, ((cells.toList.take (p.2 + ix.toNat * ri.sz + o + 0) ++ (a.eval y).cells.toList ++ cells.toList.drop (p.2 + ix.toNat * ri.sz + o + 0 + (a.eval y).cells.toList.length)).toArray)[k]? =
                      if k < p.2 + ix.toNat * ri.sz + o + 0 then cells[k]? else if k < p.2 + ix.toNat * ri.sz + o + 0 + (a.eval y).cells.toList.length then (a.eval y).cells.toList[k - (p.2 + ix.toNat * ri.sz + o + 0)]? else cells[k]? := fun k => by
                    rw [List.getElem?_toArray, seg_get hq']; simp
                  split at hi
                  · rename_i e
                    subst e
                    split at hi
                    · cases hi
                      refine ⟨_, fun j v hj => ?_, hput q _ hyc⟩
                      rw [hcell]
                      have hl1 : (a.eval y).cells.toList.length = c2.length := by rw [hlen, hc2]
                      have hj' : (c1 ++ (a.eval y).cells.toList ++ c3)[j]? = some v := hj
                      rw [List.append_assoc, List.getElem?_append] at hj'
                      split at hj'
                      · rename_i hj1
                        rw [if_pos (by omega)]
                        refine mem_cells hb (h4 j v ?_)
                        rw [e1, List.append_assoc, List.getElem?_append_left hj1]; exact hj'
                      · rename_i hj1
                        rw [List.getElem?_append] at hj'
                        split at hj'
                        · rename_i hj2
                          rw [if_neg (by omega), if_pos (by omega)]
                          rw [show p.2 + Int.toNat ix * ri.sz + j - (p.2 + Int.toNat ix * ri.sz + o + 0) = j - c1.length by omega]
                          exact hj'
                        · rename_i hj2
                          rw [if_neg (by omega), if_neg (by omega)]
                          refine mem_cells hb (h4 j v ?_)
                          rw [e1, List.append_assoc, List.getElem?_append_right (by omega), List.getElem?_append_right (by omega), ← hl1]; exact hj'
                    · cases hi
                  · rename_i hne
                    obtain ⟨ds2, h8, h9⟩ := ho.cells p h2 i x hi
                    have hl2 := Rep.length _ _ _ h9
                    refine ⟨ds2, fun j v hj => ?_, h9⟩
                    have hjl : j < ri.sz := by
                      rw [ho.sz, ← hl2]
                      rcases Nat.lt_or_ge j ds2.length with h10 | h10
                      · exact h10
                      · simp [List.getElem?_eq_none h10] at hj
                    have hout : i * ri.sz + j < ix.toNat * ri.sz ∨ ix.toNat * ri.sz + ri.sz ≤ i * ri.sz + j := by
                      rcases Nat.lt_or_gt_of_ne hne with h10 | h10
                      · right
                        have : (ix.toNat + 1) * ri.sz ≤ i * ri.sz := Nat.mul_le_mul_right _ h10
                        rw [Nat.add_mul] at this; omega
                      · left
                        have : (i + 1) * ri.sz ≤ ix.toNat * ri.sz := Nat.mul_le_mul_right _ h10
                        rw [Nat.add_mul] at this; omega
                    have hg := mem_cells hb (h8 j v hj)
                    have hlen' : (a.eval y).cells.toList.length + o ≤ ri.sz := by simp; omega
                    rw [hcell]
                    split
                    · exact hg
                    · rw [if_neg (by omega)]; exact hg
              exact ⟨_, F', ρ, hrun, fun d => RelAt.put hrel d ⟨.any, ()⟩ undef trivial⟩
          · cases he
        · cases he
      · cases he
    · cases he
  · cases he

end Go.Vs
