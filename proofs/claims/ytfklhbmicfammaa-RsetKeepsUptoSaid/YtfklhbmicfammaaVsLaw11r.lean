/- Value semantics, part 16r: an append in place. -/
import Derived.Test.YtfklhbmicfammaaVsLaw11
set_option linter.unusedVariables false
namespace Go.Vs
open Go

variable {P : Program} {tb : Tab} {R : Type} {F0 M F : Nat → Prop} {W0 w w' : World} {ρ : Nat → Option RI} {s : St} {a : Act} {m : Nat → Nat → Option Value} {id : Nat}

theorem set_back {s : St} {r : Nat} {ob : OB} (h : s.obj r = some ob) : (s.setObj r .dead).setObj r (.live ob) = s := by
  have h1 := St.obj_iff.1 h
  obtain ⟨hlt, h2⟩ := List.getElem?_eq_some_iff.1 h1
  cases s
  simp only [St.setObj, List.set_set]
  congr 1
  rw [← h2]
  exact List.set_getElem_self hlt
theorem putL_get {α : Type} {xs ys : List α} {k : Nat} (h : k + ys.length ≤ xs.length) (i : Nat) : (putL xs k ys)[i]? = if i < k then xs[i]? else if i < k + ys.length then ys[i - k]? else xs[i]? := seg_get h
theorem putL_length {α : Type} {xs ys : List α} {k : Nat} (h : k + ys.length ≤ xs.length) : (putL xs k ys).length = xs.length := by
  simp [putL]; omega
theorem putL_nil {α : Type} {xs : List α} {k : Nat} : putL xs k [] = xs := by simp [putL]

theorem append_part (h : RelAt F0 M W0 F ρ s a w) {r : Nat} {v : Nat × Nat} {x y : Value} {ob : OB} (hob : s.obj r = some ob) (hx : RepV F (mem w) ρ (.osl r) v x) {ys : List ob.t.den} {cs : List Value} (hsy : Src F w ρ y ob.t ys cs)
    {t t' el ty : TypeId} {inf : TypeInfo} (hu : P.underlying t = some (.slice el)) (hu' : ∃ el', P.underlying t' = some (.slice el')) (hi : P.info? el = some inf) (hs : ob.t.size = inf.size)
    (hfit : v.1 + v.2 + ys.length ≤ ob.xs.length) :
    ∃ val w', (Builtin.append_ #[t, t'] ty #[x, y]).run P w = .ok val w' ∧ RelAt F0 M W0 F ρ (s.setObj r (.live ⟨ob.t, putL ob.xs (v.1 + v.2) ys⟩)) a w' ∧ RepV F (mem w') ρ (.osl r) (v.1, v.2 + ys.length) val := by
  obtain ⟨_, ri, hρ, A, c, e, q1, q2, q3, q4, q5⟩ := hx
  obtain rfl : x = _ := by simpa using e
  obtain ⟨ri', hρ', ho⟩ := h.obj r ob hob
  rw [hρ] at hρ'; cases hρ'
  have hn := ho.n
  have hle := ho.le
  have hss : (s.setObj r .dead).setObj r (.live ⟨ob.t, putL ob.xs (v.1 + v.2) ys⟩) = s.setObj r (.live ⟨ob.t, putL ob.xs (v.1 + v.2) ys⟩) := by simp [St.setObj]
  by_cases h0 : ys = []
  · subst h0
    have hcs : cs = [] := List.eq_nil_of_length_eq_zero (by have := hsy.row.1; simpa using this)
    subst hcs
    obtain ⟨w', h1, h2, h3⟩ := append_fits (P := P) (ty := ty) hu hu' hi hs hsy (A := A) (n := v.2) (c := c) (by simpa using q1) (fun q hq => ⟨w, rfl⟩)
    have hw : w' = w := by
      cases A with
      | none => exact h2 rfl
      | some q =>
        have := h3 q rfl
        simp only [storeCells, Sem.run_pure] at this
        cases this; rfl
    subst hw
    refine ⟨_, w', h1, ?_, RepV.of (t := .osl r) ⟨rfl, ri, hρ, A, c, rfl, by simpa using q1, q2, by simpa using q3, q4, q5⟩⟩
    rw [← hss, putL_nil, set_back hob]
    exact h
  · have hpos : 0 < ys.length := List.length_pos_iff.2 h0
    obtain ⟨p, hA, rfl⟩ : ∃ p, ri.A = some p ∧ A = some (adr (p.1, p.2 + v.1 * ri.sz)) := by
      rcases q4 with q4 | q4
      · omega
      · exact q4
    have hp := ho.pure
    obtain ⟨cells, el2, hb, hsz⟩ := ho.block p hA
    have hcl := hsy.row.1
    have hszr : ri.sz = inf.size := by rw [ho.sz, hs]
    have hst0 : p.2 + v.1 * ri.sz + v.2 * inf.size = p.2 + (v.1 + v.2) * ri.sz := by rw [Nat.add_mul, hszr]; omega
    have hcl' : cs.length = ys.length * ri.sz := by rw [hcl, hs, hszr]
    have hfit2 : p.2 + (v.1 + v.2) * ri.sz + cs.length ≤ cells.size := by
      rw [hcl']
      have h1 : (v.1 + v.2 + ys.length) * ri.sz ≤ ri.c * ri.sz := Nat.mul_le_mul_right _ (by omega)
      rw [Nat.add_mul (v.1 + v.2)] at h1
      omega
    have hst := run_storeCells_at P p.1 (p.2 + (v.1 + v.2) * ri.sz) el2 cs 0 cells w hb (by omega) (hsy.row.one hp)
    rw [Nat.add_zero] at hst
    obtain ⟨w', h1, _, h3⟩ := append_fits (P := P) (ty := ty) hu hu' hi hs hsy (A := some (adr (p.1, p.2 + v.1 * ri.sz))) (n := v.2) (c := c) (by omega) (fun q hq => by
      cases hq; rw [adr_add, hst0]; exact ⟨_, hst⟩)
    have hw := h3 _ rfl
    rw [adr_add, hst0] at hw
    have hcells : (cells.toList.take (p.2 + (v.1 + v.2) * ri.sz) ++ cs ++ cells.toList.drop (p.2 + (v.1 + v.2) * ri.sz + cs.length)).toArray.size = cells.size := by
      simp only [List.size_toArray, List.length_append, List.length_take, List.length_drop, Array.length_toList]
      omega
    have hget : ∀ k, ((cells.toList.take (p.2 + (v.1 + v.2) * ri.sz) ++ cs ++ cells.toList.drop (p.2 + (v.1 + v.2) * ri.sz + cs.length)).toArray)[k]? =
        if k < p.2 + (v.1 + v.2) * ri.sz then cells[k]? else if k < p.2 + (v.1 + v.2) * ri.sz + cs.length then cs[k - (p.2 + (v.1 + v.2) * ri.sz)]? else cells[k]? := fun k => by
      rw [List.getElem?_toArray, seg_get (by simpa using hfit2)]; simp
    generalize hcc : (cells.toList.take (p.2 + (v.1 + v.2) * ri.sz) ++ cs ++ cells.toList.drop (p.2 + (v.1 + v.2) * ri.sz + cs.length)).toArray = cells' at hst hcells hget
    have hw' : w' = w.setRow p.1 cells' := by
      have := hw.symm.trans hst
      cases this; rfl
    subst hw'
    refine ⟨_, _, h1, ?_, RepV.of (t := .osl r) ⟨rfl, ri, hρ, _, c, rfl, by show v.2 + ys.length ≤ c; omega, q2, by show v.1 + (v.2 + ys.length) ≤ ri.n; omega, .inr ⟨p, hA, rfl⟩, q5⟩⟩
    rw [← hss]
    refine write_law (cells' := cells') h hob hρ ho hA hb hsz hcells rfl (putL_length hfit) fun i y hi => ?_
    simp only at hi
    rw [putL_get hfit] at hi
    have hold : ∀ y, ob.xs[i]? = some y → (i < v.1 + v.2 ∨ v.1 + v.2 + ys.length ≤ i) → ∃ ds, (∀ (j : Nat) v', ds[j]? = some v' → cells'[p.2 + i * ri.sz + j]? = some v') ∧ Rep F (mem w) ρ ob.t y ds := by
      intro y hy hout
      obtain ⟨ds, k1, k2⟩ := ho.cells p hA i y hy
      have hl := Rep.length _ _ _ k2
      refine ⟨ds, fun j v' hj => ?_, k2⟩
      have hjl : j < ri.sz := by
        rw [ho.sz, ← hl]
        rcases Nat.lt_or_ge j ds.length with h10 | h10
        · exact h10
        · rw [List.getElem?_eq_none h10] at hj; cases hj
      have hg := mem_cells hb (k1 j v' hj)
      rw [hget]
      rcases hout with h10 | h10
      · have h11 : (i + 1) * ri.sz ≤ (v.1 + v.2) * ri.sz := Nat.mul_le_mul_right _ h10
        rw [Nat.add_mul] at h11
        rw [if_pos (by omega)]; exact hg
      · have h11 : (v.1 + v.2 + ys.length) * ri.sz ≤ i * ri.sz := Nat.mul_le_mul_right _ h10
        rw [Nat.add_mul (v.1 + v.2)] at h11
        rw [if_neg (by omega), if_neg (by omega)]; exact hg
    split at hi
    · exact hold y hi (.inl ‹_›)
    · split at hi
      · rename_i h10 h11
        refine ⟨_, fun j v' hj => ?_, hsy.row.2 (i - (v.1 + v.2)) y hi⟩
        rw [List.getElem?_take] at hj
        split at hj
        · rename_i h12
          rw [List.getElem?_drop] at hj
          rw [hs, ← hszr] at hj h12
          have h13 : i * ri.sz = (v.1 + v.2) * ri.sz + (i - (v.1 + v.2)) * ri.sz := by rw [← Nat.add_mul]; congr 1; omega
          have h14 : (i - (v.1 + v.2)) * ri.sz + j < cs.length := by
            rcases Nat.lt_or_ge ((i - (v.1 + v.2)) * ri.sz + j) cs.length with h15 | h15
            · exact h15
            · rw [List.getElem?_eq_none h15] at hj; cases hj
          rw [hget, if_neg (by omega), if_pos (by omega)]
          rw [show p.2 + i * ri.sz + j - (p.2 + (v.1 + v.2) * ri.sz) = (i - (v.1 + v.2)) * ri.sz + j by omega]
          exact hj
        · cases hj
      · exact hold y hi (.inr (by omega))

theorem appR_law (hT : TabOk P tb) (h : RelAt F0 M W0 F ρ s a w) {ts : Array TypeId} {ty : Nat} {args : Array Operand} {e : Eff R} (he : opAppR tb ts args s = some e) :
    Done P F0 M W0 a w id e (Builtin.append_ ts ty (args.map a.eval)) := by
  unfold opAppR at he
  split at he
  · rename_i t t' r v y hts hargs
    have hts' : ts = #[t, t'] := by apply Array.ext'; simpa using hts
    subst hts'
    obtain ⟨vx, xs, hv, hx, hx1, vy, xs', hv', hy, hy1, hv''⟩ := evs_law h hargs
    subst hv''
    subst hv'
    have hargs' : args.map a.eval = #[vx, vy] := by apply Array.ext'; rw [Array.toList_map, hv]
    rw [hargs']
    split at he
    · rename_i e' e'' ob hel hel' hob
      split at he
      · rename_i hc
        simp only [Bool.and_eq_true, beq_iff_eq, decide_eq_true_eq] at hc
        obtain ⟨⟨⟨hby, hep⟩, hesz⟩, hos⟩ := hc
        obtain ⟨el, inf, h1, h2, h3, h4, h5⟩ := elemOf_law hT hel
        obtain ⟨el', inf2, h1', _⟩ := elemOf_law hT hel'
        obtain ⟨ri, hρ, ho⟩ := h.obj r ob hob
        have hos' : ob.t.size = inf.size := by rw [hos, h4]
        split at he
        · rename_i oy hoy
          split at he
          · rename_i hot
            obtain ⟨obt, obx⟩ := ob
            obtain ⟨oyt, oyxs⟩ := oy
            simp only at hot
            subst hot
            cases he
            have hsrc : ∃ cs, Src F w ρ vy _ oyxs cs := by
              split at hoy
              · rename_i hyn
                cases hoy
                have := nils_val hyn hy
                subst this
                exact ⟨[], nils_src⟩
              · exact list_src h hoy hy ho.pure
            obtain ⟨cs, hsy⟩ := hsrc
            intro u hu
            simp only [Cnd.map, Cnd.test] at hu
            cases hk : decide (v.1 + v.2 + oyxs.length ≤ obx.length) with
            | false => rw [hk] at hu; simp at hu
            | true =>
              rw [hk] at hu
              obtain rfl := Option.some.inj hu
              obtain ⟨val, w', g1, g2, g3⟩ := append_part h hob hx hsy (ty := ty) h1 ⟨el', h1'⟩ h3 hos' (of_decide_eq_true hk)
              exact ⟨val, w', F, ρ, g1, fun d => RelAt.put g2 d ⟨.osl r, _⟩ _ g3⟩
          · cases he
        · cases he
      · cases he
    · cases he
  · cases he

end Go.Vs
