/- Value semantics, part 19c: 'clear' of a slice. -/
import Derived.Test.YtaeobljnmfbdmaaVuLaw11z
set_option linter.unusedVariables false
namespace Go.Vu
open Go
variable {P : Program} {tb : Tab} {R : Type} {F0 : Bs} {M F : Nat → Prop} {W0 w w' : World} {ρ : RK → Option RI} {s : St} {a : Act} {id : Nat}
theorem clrL_get {α : Type} {xs : List α} {k n : Nat} {z : α} (h : k + n ≤ xs.length) (i : Nat) : (clrL xs k n z)[i]? = if i < k then xs[i]? else if i < k + n then some z else xs[i]? := by
 have := seg_get (l := xs) (vs := List.replicate n z) (q := k) (k := i) (by simpa using h)
 simp only [List.length_replicate] at this
 unfold clrL
 rw [this]
 split
 ·rfl
 ·split
  ·rw [List.getElem?_replicate, if_pos (by omega)]
  ·rfl
theorem clrL_length {α : Type} {xs : List α} {k n : Nat} {z : α} (h : k + n ≤ xs.length) : (clrL xs k n z).length = xs.length := by
 simp [clrL]; omega
theorem clrL_zero {α : Type} {xs : List α} {k : Nat} {z : α} : clrL xs k 0 z = xs := by simp [clrL]
theorem clear_law (hT : TabOk P tb) (h : RelAt F0 M W0 F ρ s a w) {t ty : Nat} {x : Operand} {e : Eff R} (he : opClear tb t x s = some e) :
  Done P F0 M W0 a w id e (Builtin.clear_ #[t] ty #[a.eval x]) := by
 unfold opClear at he
 split at he
 ·rename_i ei r v hel hx
  split at he
  ·rename_i ob hob
   split at he
   ·rename_i hc
    simp only [Bool.and_eq_true, decide_eq_true_eq, Bool.not_eq_true'] at hc
    obtain ⟨hsz, hst, hp⟩ := hc
    split at he
    ·rename_i ht
     obtain ⟨obt, obx⟩ := ob
     simp only at ht
     subst ht
     cases he
     obtain ⟨el, inf, h1, h2, h3, h4, h5⟩ := elemOf_law hT hel
     obtain ⟨inf', i1, i2, i3, i4⟩ := h2.info
     rw [h3] at i1; cases i1
     obtain ⟨z, hz, hz'⟩ := i4 (pure_notAny hp)
     obtain ⟨ri, A, c, g1, g2, g3, g4, g5, g6, _⟩ := evOsl h hx
     obtain ⟨ri', g1', ho⟩ := h.obj r _ hob
     rw [g1] at g1'; cases g1'
     have hzr : z.oneCell' = true ∧ Rep F (mem w) ρ ei.ty ei.zero [z] := by
      have := hz' F (mem w) ρ
      unfold RepV1 at this
      rw [if_neg (by rw [hst]; simp)] at this
      exact this
     have hts : ei.ty.size = 1 := by
      have := Rep.length _ _ _ hzr.2
      simpa using this.symm
     have hrs : ri.sz = 1 := by rw [ho.sz]; exact hts
     have hn : v.1 + v.2 ≤ obx.length := by rw [← ho.n]; exact g5
     intro u hu
     simp only [Eff.upd, Cnd.map, Cnd.ret, Option.map_some] at hu
     obtain rfl := Option.some.inj hu
     rcases Nat.eq_zero_or_pos v.2 with hv0 | hv0
     ·refine ⟨.tuple #[], w, F, ρ, ?_, fun d => ?_⟩
      ·rw [g2, hv0]
       cases A <;> simp [Builtin.clear_, run_underlying h1]
      ·refine RelAt.put ?_ d ⟨.any, ()⟩ _ trivial
       show RelAt F0 M W0 F ρ ((s.setObj r .dead).setObj r (.live (.arr ⟨ei.ty, clrL obx v.1 v.2 ei.zero⟩))) a w
       rw [hv0, clrL_zero, set_back (St.obj_cont.1 hob)]
       exact h
     ·obtain ⟨p, hA, rfl⟩ : ∃ p, ri.A = some p ∧ A = some (adr (p.1, p.2 + v.1 * ri.sz)) := by
       rcases g6 with g6 | g6
       ·omega
       ·exact g6
      obtain ⟨cells, el', hb, hfit⟩ := ho.block p hA
      rw [hrs] at hfit
      have hzc : (Builtin.zeroCells z.cells v.2).toList = List.replicate v.2 z := by
       rw [cells_one hzr.1]
       simp [Builtin.zeroCells]
       apply List.ext_getElem
       ·simp
       ·intro i h1 h2
        simp [Nat.mod_one]
      have hst := run_storeCells_at P p.1 (p.2 + v.1 * ri.sz) el' (List.replicate v.2 z) 0 cells w hb (by simp [hrs]; omega) (fun y hy => by rw [List.eq_of_mem_replicate hy]; exact hzr.1)
      have hq : p.2 + v.1 * ri.sz + 0 + (List.replicate v.2 z).length ≤ cells.toList.length := by simp [hrs]; omega
      have hcell : ∀ k, ((cells.toList.take (p.2 + v.1 * ri.sz + 0) ++ List.replicate v.2 z ++ cells.toList.drop (p.2 + v.1 * ri.sz + 0 + (List.replicate v.2 z).length)).toArray)[k]? =
        if k < p.2 + v.1 * ri.sz + 0 then cells[k]? else if k < p.2 + v.1 * ri.sz + 0 + (List.replicate v.2 z).length then (List.replicate v.2 z)[k - (p.2 + v.1 * ri.sz + 0)]? else cells[k]? := fun k => by
       rw [List.getElem?_toArray, seg_get hq]; simp
      have hsz' : ((cells.toList.take (p.2 + v.1 * ri.sz + 0) ++ List.replicate v.2 z ++ cells.toList.drop (p.2 + v.1 * ri.sz + 0 + (List.replicate v.2 z).length)).toArray).size = cells.size := by
       simp only [List.size_toArray, List.length_append, List.length_take, List.length_drop, Array.length_toList, List.length_replicate, hrs]
       omega
      generalize hcc : (cells.toList.take (p.2 + v.1 * ri.sz + 0) ++ List.replicate v.2 z ++ cells.toList.drop (p.2 + v.1 * ri.sz + 0 + (List.replicate v.2 z).length)).toArray = cells' at hst hcell hsz'
      refine ⟨.tuple #[], w.setRow p.1 cells', F, ρ, ?_, fun d => ?_⟩
      ·rw [g2]
       obtain ⟨m, hm⟩ : ∃ m, v.2 = m + 1 := ⟨v.2 - 1, by omega⟩
       have hst' : (storeCells (adr (p.1, p.2 + v.1 * ri.sz)) (List.replicate v.2 z) 0).run P w = _ := hst
       rw [hm] at hzc hst' ⊢
       simp only [Builtin.clear_]
       simp [run_underlying h1, run_zeroValue h3 hz, hzc, hst']
      ·refine RelAt.put ?_ d ⟨.any, ()⟩ _ trivial
       refine write_law (ob' := ⟨ei.ty, clrL obx v.1 v.2 ei.zero⟩) (cells' := cells') h hob g1 ho hA hb (by rw [hrs]; exact hfit) hsz' rfl (clrL_length hn) sets_dead sets_live ?_
       ·intro i y hi
        simp only at hi
        rw [clrL_get hn] at hi
        have hold : ∀ y, obx[i]? = some y → (i < v.1 ∨ v.1 + v.2 ≤ i) → ∃ ds, (∀ (j : Nat) v', ds[j]? = some v' → cells'[p.2 + i * ri.sz + j]? = some v') ∧ Rep F (mem w) ρ ei.ty y ds := by
         intro y hy hout
         obtain ⟨ds, k1, k2⟩ := ho.cells p hA i y hy
         have hl := Rep.length _ _ _ k2
         refine ⟨ds, fun j v' hj => ?_, k2⟩
         have hj0 : j = 0 := by
          rcases Nat.lt_or_ge j ds.length with h10 | h10
          ·simp only [hl, hts] at h10; omega
          ·rw [List.getElem?_eq_none h10] at hj; cases hj
         have hg := mem_cells hb (k1 j v' hj)
         subst hj0
         rw [hcell]
         simp only [hrs, List.length_replicate] at hg ⊢
         rcases hout with h10 | h10
         ·rw [if_pos (by omega)]; exact hg
         ·rw [if_neg (by omega), if_neg (by omega)]; exact hg
        split at hi
        ·exact hold y hi (.inl ‹_›)
        ·split at hi
         ·cases hi
          refine ⟨[z], fun j v' hj => ?_, hzr.2⟩
          have hj0 : j = 0 := by
           rcases Nat.lt_or_ge j 1 with h10 | h10
           ·omega
           ·rw [List.getElem?_eq_none (by simpa using h10)] at hj; cases hj
          subst hj0
          simp only [List.getElem?_cons_zero, Option.some.injEq] at hj
          subst hj
          rw [hcell]
          simp only [hrs, List.length_replicate]
          rw [if_neg (by omega), if_pos (by omega), List.getElem?_replicate, if_pos (by omega)]
         ·exact hold y hi (.inr (by omega))
    ·cases he
   ·cases he
  ·cases he
 ·cases he
end Go.Vu
