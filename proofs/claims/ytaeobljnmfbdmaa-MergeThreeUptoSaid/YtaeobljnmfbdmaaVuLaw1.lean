/- Value semantics, part 6: what stands behind the tables; operands; loads, stores, new places. -/
import Derived.Test.YtaeobljnmfbdmaaVuOp
import Derived.Laws.CopyRow
set_option linter.unusedVariables false
namespace Go.Vu
open Go
structure TIOk (P : Program) (t : Nat) (i : TI) : Prop where
  info : ∃ info, P.info? t = some info ∧ info.size = i.sz ∧ info.bytes = i.bys ∧
   (isAny i.ty = false → ∃ z, info.zero = some z ∧ ∀ F m ρ, RepV1 F m ρ i.ty i.zero z)
  agg : ∀ w, (isAgg t).run P w = .ok i.agg w
  und : match i.kd with
   | .bool => P.underlying t = some .bool
   | .int k => P.underlying t = some (.int k)
   | .str => P.underlying t = some .string
   | .slice e => P.underlying t = some (.slice e)
   | .ptr e => P.underlying t = some (.pointer e)
   | .arr n e => P.underlying t = some (.array n e)
   | .struct fs => ∃ fields, P.underlying t = some (.struct fields) ∧ fields.toList.map (fun f => (f.offset, f.type)) = fs ∧
     ∀ f ∈ fields.toList, f.name ≠ "_" ∧ ∃ inf, P.info? f.type = some inf ∧ inf.size ≠ 0
   | .map k e => ∃ kt, P.underlying t = some (.map kt e) ∧ P.underlying kt = some (.int k)
   | .other => True
  nilz : ∀ info z, P.info? t = some info → info.zero = some z → isAny i.ty = false → ∀ F m ρ, RepV1 F m ρ (nilT i.ty) (nilV i.ty i.zero) z
  eqs : i.eqb = true → P.stoodInHeld t = false ∧ P.eqGuardType P.depth t = false
def TabOk (P : Program) (tb : Tab) : Prop := ∀ t i, tb.get t = some i → TIOk P t i
theorem TabOk.nil (P : Program) : TabOk P [] := fun _ _ h => by cases h
theorem TabOk.cons {P : Program} {t : Nat} {i : TI} {tb : Tab} (h : TIOk P t i) (r : TabOk P tb) : TabOk P ((t, i) :: tb) := fun u j hj => by
  simp only [Tab.get] at hj
  split at hj
  ·rename_i e
   have : t = u := by simpa using e
   subst this; cases hj; exact h
  ·exact r u j hj
variable {P : Program} {tb : Tab} {R : Type} {F0 : Bs} {M F : Nat → Prop} {W0 w w' : World} {ρ : RK → Option RI} {s : St} {a : Act} {m : Nat → Nat → Option Value}
theorem RepV1.of {t : Ty} {v : t.den} {x : Value} (h : RepV F m ρ t v x) (h1 : isAny t = false) (h2 : ∀ u, t ≠ .tup u) : RepV1 F m ρ t v x := by
  cases t <;> first | exact h | (simp [isAny] at h1; done) | exact absurd rfl (h2 _)
theorem RepV.of {t : Ty} {v : t.den} {x : Value} (h : RepV1 F m ρ t v x) : RepV F m ρ t v x := by
  cases t <;> first | exact h | trivial | (exfalso; simp [RepV1, isSt, Rep] at h; done)
theorem cells_one {x : Value} (h : x.oneCell' = true) : x.cells = #[x] := by cases x <;> first | rfl | cases h
theorem RepV1.cells {t : Ty} {v : t.den} {x : Value} (h : RepV1 F m ρ t v x) : Rep F m ρ t v x.cells.toList := by
  unfold RepV1 at h
  split at h
  ·obtain ⟨cs, e, h⟩ := h; subst e; simpa [Value.cells] using h
  ·rw [cells_one h.1]; exact h.2
theorem pure_cell : ∀ {t : Ty}, t.pure = true → t.cell = true
  | .st t, h => pure_cell (t := t) h
  | .pair a b, h => by
   simp only [Ty.pure, Bool.and_eq_true] at h
   simp only [Ty.cell, Bool.and_eq_true]
   exact ⟨pure_cell h.1, pure_cell h.2⟩
  | .int _, _ => rfl
  | .bool, _ => rfl
  | .str, _ => rfl
  | .unit, _ => rfl
  | .slice _, _ => rfl
  | .sln _, _ => rfl
  | .ptr _, _ => rfl
  | .rad _ _, _ => rfl
  | .clo _ _, _ => rfl
  | .nils, _ => rfl
  | .nilp, _ => rfl
  | .lost, _ => rfl
  | .fmp _ _, _ => rfl
theorem Rep.one : ∀ (t : Ty) (v : t.den) (cs : List Value), t.cell = true → Rep F m ρ t v cs → ∀ c ∈ cs, c.oneCell' = true
  | .int _, _, _, _, h => by cases h; simp [Value.oneCell']
  | .bool, _, _, _, h => by cases h; simp [Value.oneCell']
  | .str, _, _, _, h => by cases h; simp [Value.oneCell']
  | .st t, v, cs, hp, h => Rep.one t v cs hp h
  | .unit, _, _, _, h => by cases h; simp
  | .pair a b, v, cs, hp, ⟨c1, c2, e, h1, h2⟩ => by
    simp only [Ty.cell, Bool.and_eq_true] at hp
    subst e
    intro c hc
    rcases List.mem_append.1 hc with hc | hc
    ·exact Rep.one a _ _ hp.1 h1 c hc
    ·exact Rep.one b _ _ hp.2 h2 c hc
  | .slice t, v, cs, hp, ⟨A, n, c, e, _⟩ => by subst e; simp [Value.oneCell']
  | .sln t, v, cs, hp, ⟨A, n, c, e, _⟩ => by subst e; simp [Value.oneCell']
  | .ptr t, v, cs, hp, h => by
    rcases h with ⟨_, e⟩ | ⟨x, p, ds, e, ec, _⟩ <;> (subst_vars; simp [Value.oneCell'])
  | .rad t o, v, cs, hp, ⟨p, ds, ec, _⟩ => by subst ec; simp [Value.oneCell']
  | .clo f c, v, cs, hp, ⟨ds, e, h⟩ => by subst e; simp [Value.oneCell']
  | .nils, _, _, _, h => by cases h; simp [Value.oneCell']
  | .nilp, _, _, _, h => by cases h; simp [Value.oneCell']
  | .lost, _, _, _, ⟨c, e, h⟩ => by subst e; intro d hd; simp only [List.mem_singleton] at hd; subst hd; exact h
  | .ow r, _, _, _, ⟨ri, h, e⟩ => by subst e; simp [Value.oneCell', RI.val]
  | .osl r, _, _, _, ⟨ri, h, A, c, e, _⟩ => by subst e; simp [Value.oneCell']
  | .oad r o, _, _, _, ⟨ri, p, h, _, e⟩ => by subst e; simp [Value.oneCell']
  | .pad r o, _, _, _, ⟨ri, p, h, _, e⟩ => by subst e; simp [Value.oneCell']
  | .psl q, _, _, _, h => by
    rcases h with ⟨_, e⟩ | ⟨i, u, _, ri, h, A, c, e, _⟩ <;> (subst e; simp [Value.oneCell'])
  | .pdd q o, _, _, _, ⟨ri, p, h, _, e⟩ => by subst e; simp [Value.oneCell']
  | .mpv r, _, _, _, ⟨ri, p, h, _, e⟩ => by subst e; simp [Value.oneCell']
  | .fmp k t, _, _, _, ⟨b, e, _⟩ => by subst e; simp [Value.oneCell']
theorem RepV1.mk {t : Ty} {v : t.den} {cs : List Value} (hp : t.cell = true) (h : Rep F m ρ t v cs) (hs : isSt t = true ∨ ∃ x, cs = [x]) :
   RepV1 F m ρ t v (if isSt t then .agg cs.toArray else cs.headD (.tuple #[])) := by
  unfold RepV1
  split
  ·exact ⟨cs, rfl, h⟩
  ·rename_i hn
   rcases hs with hs | ⟨x, e⟩
   ·exact absurd hs hn
   ·subst e
    exact ⟨Rep.one t v _ hp h _ (by simp), h⟩
theorem ev_law (h : RelAt F0 M W0 F ρ s a w) {x : Operand} {y : TV} (he : ev s x = some y) : RepV F (mem w) ρ y.t y.v (a.eval x) ∧ isAny y.t = false := by
  cases x with
  | tmp t =>
   simp only [ev] at he
   cases hz : s.get t with
   | none => simp [hz] at he
   | some z =>
    simp only [hz] at he
    split at he
    ·cases he
    ·rename_i hn
     cases he
     obtain ⟨val, h1, h2⟩ := h.slot t _ hz
     have : a.eval (.tmp t) = val := by simp [Act.eval, Array.getD_eq_getD_getElem?, h1]
     rw [this]
     refine ⟨h2, ?_⟩
     obtain ⟨tz, vz⟩ := y
     cases tz <;> first | rfl | (simp [isNone'] at hn)
  | const v =>
   simp only [ev] at he
   simp only [Act.eval]
   unfold constTV at he
   split at he
   ·cases he; exact ⟨⟨rfl, rfl⟩, rfl⟩
   ·cases he; exact ⟨⟨rfl, rfl⟩, rfl⟩
   ·cases he; exact ⟨⟨rfl, by simp [Rep]⟩, rfl⟩
   ·cases he; exact ⟨⟨rfl, rfl⟩, rfl⟩
   ·cases he; exact ⟨⟨rfl, rfl⟩, rfl⟩
   ·cases he; exact ⟨⟨rfl, .map none, rfl, rfl⟩, rfl⟩
   ·rename_i cs
    split at he
    ·rename_i q hq
     cases he
     refine ⟨⟨cs.toList, rfl, ?_⟩, rfl⟩
     exact consts cs.toList q hq
    ·cases he
   ·cases he
  | func f =>
   simp only [ev] at he
   cases he
   exact ⟨⟨rfl, [], rfl, rfl⟩, rfl⟩
  | global g => simp [ev] at he
 where
  consts : ∀ (l : List Value) (q : TV), constCells l = some q → Rep F (mem w) ρ q.t q.v l := by
   intro l
   induction l with
   | nil => intro q hq; simp only [constCells, Option.some.injEq] at hq; subst hq; rfl
   | cons x r ih =>
    intro q hq
    cases r with
    | nil =>
     simp only [constCells] at hq
     split at hq <;> cases hq
     all_goals first | rfl | simp [Rep]
    | cons y r =>
     simp only [constCells] at hq
     split at hq
     ·rename_i q1 q2 h1 h2
      cases hq
      refine ⟨[x], y :: r, rfl, ?_, ih _ h1⟩
      split at h2 <;> cases h2
      all_goals first | rfl | simp [Rep]
     ·cases hq
theorem adr_add (p : Nat × Nat) (n : Nat) : (adr p).add n = adr (p.1, p.2 + n) := by
  unfold Addr.add adr
  split
  ·subst_vars; simp
  ·rfl
theorem leaf_one {T : Ty} {off sz : Nat} {agg : Bool} {l : Lens T} (h : (if off == 0 && sz == 1 && !agg then some (⟨T, fun x => x, fun _ y => y⟩ : Lens T) else none) = some l) : sz = 1 := by
   split at h
   ·rename_i hc; simp at hc; exact hc.1.2
   ·cases h
theorem comp_one : ∀ (T : Ty) (off sz : Nat) (agg : Bool) (l : Lens T), comp T off sz agg = some l → isSt l.t = false → sz = 1
  | .st t, off, sz, agg, l, h, hs => by
   simp only [comp] at h
   split at h
   ·cases h; simp [isSt] at hs
   ·cases hk : comp t off sz agg with
    | none => simp [hk] at h
    | some l' =>
     simp only [hk, Option.map_some, Option.some.injEq] at h
     subst h; exact comp_one t off sz agg l' hk hs
  | .pair a b, off, sz, agg, l, h, hs => by
   simp only [comp] at h
   split at h
   ·cases hk : comp a off sz agg with
    | none => simp [hk] at h
    | some l' =>
     simp only [hk, Option.map_some, Option.some.injEq] at h
     subst h; exact comp_one a off sz agg l' hk hs
   ·split at h
    ·cases hk : comp b (off - a.size) sz agg with
     | none => simp [hk] at h
     | some l' =>
      simp only [hk, Option.map_some, Option.some.injEq] at h
      subst h; exact comp_one b (off - a.size) sz agg l' hk hs
    ·cases h
  | .unit, off, sz, agg, l, h, hs => by simp [comp] at h
  | .tup _, off, sz, agg, l, h, hs => by simp [comp] at h
  | .int _, off, sz, agg, l, h, hs => leaf_one h
  | .bool, off, sz, agg, l, h, hs => leaf_one h
  | .str, off, sz, agg, l, h, hs => leaf_one h
  | .slice _, off, sz, agg, l, h, hs => leaf_one h
  | .sln _, off, sz, agg, l, h, hs => leaf_one h
  | .ptr _, off, sz, agg, l, h, hs => leaf_one h
  | .rad _ _, off, sz, agg, l, h, hs => leaf_one h
  | .ow _, off, sz, agg, l, h, hs => leaf_one h
  | .osl _, off, sz, agg, l, h, hs => leaf_one h
  | .oad _ _, off, sz, agg, l, h, hs => leaf_one h
  | .clo _ _, off, sz, agg, l, h, hs => leaf_one h
  | .nils, off, sz, agg, l, h, hs => leaf_one h
  | .nilp, off, sz, agg, l, h, hs => leaf_one h
  | .lost, off, sz, agg, l, h, hs => leaf_one h
  | .any, off, sz, agg, l, h, hs => leaf_one h
  | .psl _, off, sz, agg, l, h, hs => leaf_one h
  | .pdd _ _, off, sz, agg, l, h, hs => leaf_one h
  | .pad _ _, off, sz, agg, l, h, hs => leaf_one h
  | .mpv _, off, sz, agg, l, h, hs => leaf_one h
  | .fmp _ _, off, sz, agg, l, h, hs => leaf_one h
  | .mpc _ _, off, sz, agg, l, h, hs => leaf_one h
  | .mit _ _, off, sz, agg, l, h, hs => leaf_one h
  | .vec _, off, sz, agg, l, h, hs => leaf_one h
  | .bx _, off, sz, agg, l, h, hs => leaf_one h
  | .iter, off, sz, agg, l, h, hs => leaf_one h
  | .nxt _ _, off, sz, agg, l, h, hs => leaf_one h
theorem hold_cell : ∀ {t : Ty}, t.hold = true → t.cell = true
  | .st t, h => hold_cell (t := t) h
  | .pair a b, h => by
   simp only [Ty.hold, Bool.and_eq_true] at h
   simp [Ty.cell, hold_cell h.1, hold_cell h.2]
  | .int _, _ => rfl
  | .bool, _ => rfl
  | .str, _ => rfl
  | .unit, _ => rfl
  | .slice _, _ => rfl
  | .sln _, _ => rfl
  | .ptr _, _ => rfl
  | .rad _ _, _ => rfl
  | .clo _ _, _ => rfl
  | .nils, _ => rfl
  | .nilp, _ => rfl
  | .fmp _ _, _ => rfl
  | .lost, _ => rfl
  | .psl _, _ => rfl
theorem leaf_cell {T : Ty} {off sz : Nat} {agg : Bool} {l : Lens T} (h : (if off == 0 && sz == 1 && !agg then some (⟨T, fun x => x, fun _ y => y⟩ : Lens T) else none) = some l) (hp : T.cell = true) : l.t.cell = true := by
   split at h
   ·cases h; exact hp
   ·cases h
theorem comp_cell : ∀ (T : Ty) (off sz : Nat) (agg : Bool) (l : Lens T), comp T off sz agg = some l → T.cell = true → l.t.cell = true
  | .st t, off, sz, agg, l, h, hp => by
   simp only [comp] at h
   split at h
   ·cases h; exact hp
   ·cases hk : comp t off sz agg with
    | none => simp [hk] at h
    | some l' =>
     simp only [hk, Option.map_some, Option.some.injEq] at h
     subst h; exact comp_cell t off sz agg l' hk hp
  | .pair a b, off, sz, agg, l, h, hp => by
   simp only [comp] at h
   simp only [Ty.cell, Bool.and_eq_true] at hp
   split at h
   ·cases hk : comp a off sz agg with
    | none => simp [hk] at h
    | some l' =>
     simp only [hk, Option.map_some, Option.some.injEq] at h
     subst h; exact comp_cell a off sz agg l' hk hp.1
   ·split at h
    ·cases hk : comp b (off - a.size) sz agg with
     | none => simp [hk] at h
     | some l' =>
      simp only [hk, Option.map_some, Option.some.injEq] at h
      subst h; exact comp_cell b (off - a.size) sz agg l' hk hp.2
    ·cases h
  | .unit, off, sz, agg, l, h, hp => by simp [comp] at h
  | .tup _, off, sz, agg, l, h, hp => by simp [comp] at h
  | .int _, off, sz, agg, l, h, hp => leaf_cell h hp
  | .bool, off, sz, agg, l, h, hp => leaf_cell h hp
  | .str, off, sz, agg, l, h, hp => leaf_cell h hp
  | .slice _, off, sz, agg, l, h, hp => leaf_cell h hp
  | .sln _, off, sz, agg, l, h, hp => leaf_cell h hp
  | .ptr _, off, sz, agg, l, h, hp => leaf_cell h hp
  | .rad _ _, off, sz, agg, l, h, hp => leaf_cell h hp
  | .ow _, off, sz, agg, l, h, hp => leaf_cell h hp
  | .osl _, off, sz, agg, l, h, hp => leaf_cell h hp
  | .oad _ _, off, sz, agg, l, h, hp => leaf_cell h hp
  | .clo _ _, off, sz, agg, l, h, hp => leaf_cell h hp
  | .nils, off, sz, agg, l, h, hp => leaf_cell h hp
  | .nilp, off, sz, agg, l, h, hp => leaf_cell h hp
  | .lost, off, sz, agg, l, h, hp => leaf_cell h hp
  | .any, off, sz, agg, l, h, hp => leaf_cell h hp
  | .psl _, off, sz, agg, l, h, hp => leaf_cell h hp
  | .pdd _ _, off, sz, agg, l, h, hp => leaf_cell h hp
  | .pad _ _, off, sz, agg, l, h, hp => leaf_cell h hp
  | .mpv _, off, sz, agg, l, h, hp => leaf_cell h hp
  | .fmp _ _, off, sz, agg, l, h, hp => leaf_cell h hp
  | .mpc _ _, off, sz, agg, l, h, hp => leaf_cell h hp
  | .mit _ _, off, sz, agg, l, h, hp => leaf_cell h hp
  | .vec _, off, sz, agg, l, h, hp => leaf_cell h hp
  | .bx _, off, sz, agg, l, h, hp => leaf_cell h hp
  | .iter, off, sz, agg, l, h, hp => leaf_cell h hp
  | .nxt _ _, off, sz, agg, l, h, hp => leaf_cell h hp
theorem load_law {t : Nat} {i : TI} (ht : TIOk P t i) {l : Ty} (hs : isSt l = i.agg) (hz : i.sz = l.size) (h1 : isSt l = false → i.sz = 1) (hp : l.cell = true) {v : l.den} {p : Nat × Nat} {cs : List Value}
   (hc : CellsAt (mem w) p.1 p.2 cs) (hr : Rep F (mem w) ρ l v cs) : ∃ val, (loadVar t (adr p)).run P w = .ok val w ∧ RepV1 F (mem w) ρ l v val := by
  have hl := Rep.length l v cs hr
  obtain ⟨info, hi, hsz, _⟩ := ht.info
  have hmem : ∀ j u, cs[j]? = some u → w.cell? ((adr p).add j) = some u := fun j u hj => by
   rw [adr_add]; exact mem_cell (hc j u hj) (Rep.one l v cs hp hr u (List.mem_of_getElem? hj))
  cases hag : i.agg with
  | true =>
   refine ⟨.agg cs.toArray, ?_, ?_⟩
   ·have : (sizeOf t).run P w = .ok cs.length w := by simp [sizeOf, typeInfo, program, hi, hsz, hz, hl, Sem.run]
    simp only [loadVar, Sem.run_bind, ht.agg w, hag, Result.andThen_ok, if_true, this, run_loadCells_list w (adr p) cs hmem, Sem.run_pure]
   ·unfold RepV1; rw [if_pos (by rw [hs, hag])]; exact ⟨cs, rfl, hr⟩
  | false =>
   have hs0 : isSt l = false := by rw [hs, hag]
   have : cs.length = 1 := by rw [hl, ← hz, h1 hs0]
   obtain ⟨x, rfl⟩ := List.length_eq_one_iff.1 this
   have hx := hmem 0 x rfl
   rw [adr_add] at hx
   refine ⟨x, ?_, ?_⟩
   ·simp only [loadVar, Sem.run_bind, ht.agg w, hag, Result.andThen_ok, Bool.false_eq_true, if_false, run_load]
    have : w.cell? (adr p) = some x := hx
    rw [this]
   ·unfold RepV1; rw [if_neg (by simp [hs0])]; exact ⟨Rep.one l v _ hp hr x (by simp), hr⟩
theorem CellsAt.part {b o : Nat} {c1 c2 c3 : List Value} (h : CellsAt m b o (c1 ++ c2 ++ c3)) : CellsAt m b (o + c1.length) c2 := fun j v hj => by
  have hlt : j < c2.length := by
   rcases Nat.lt_or_ge j c2.length with h1 | h1
   ·exact h1
   ·simp [List.getElem?_eq_none h1] at hj
  have := h (c1.length + j) v (by
   rw [List.append_assoc, List.getElem?_append_right (by omega), Nat.add_sub_cancel_left, List.getElem?_append_left hlt]; exact hj)
  rwa [← Nat.add_assoc] at this
end Go.Vu
