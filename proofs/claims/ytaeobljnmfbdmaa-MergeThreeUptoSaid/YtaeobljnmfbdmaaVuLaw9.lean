/- Value semantics, part 14: what is built, and what is appended. -/
import Derived.Test.YtaeobljnmfbdmaaVuLaw8
import Derived.Laws.Append
set_option linter.unusedVariables false
namespace Go.Vu
open Go
variable {P : Program} {tb : Tab} {R : Type} {F0 : Bs} {M F : Nat → Prop} {W0 w w' : World} {ρ : RK → Option RI} {s : St} {a : Act} {m : Nat → Nat → Option Value} {id : Nat}
theorem places_law : ∀ (fl : List Field), (∀ f ∈ fl, ∃ inf, P.info? f.type = some inf) →
  ∃ places : List (Nat × Nat), fl.mapM (fun f => (P.info? f.type).map fun i => (f.offset, i.size)) = some places ∧ ∀ (i : Nat) (f : Field), fl[i]? = some f → ∃ inf, P.info? f.type = some inf ∧ places[i]? = some (f.offset, inf.size)
 | [], _ => ⟨[], rfl, fun i f h => by simp at h⟩
 | f :: fl, h => by
  obtain ⟨inf, hi⟩ := h f (by simp)
  obtain ⟨places, h1, h2⟩ := places_law fl (fun g hg => h g (by simp [hg]))
  refine ⟨(f.offset, inf.size) :: places, by simp [List.mapM_cons, hi, h1], fun i g hg => ?_⟩
  cases i with
  | zero => simp only [List.getElem?_cons_zero, Option.some.injEq] at hg; subst hg; exact ⟨inf, hi, rfl⟩
  | succ i => exact h2 i g (by simpa using hg)
theorem build_law (hT : TabOk P tb) (h : RelAt F0 M W0 F ρ s a w) {t : Nat} {parts : Array (Nat × Operand)} {e : Eff R} (he : opBuild tb t parts s = some e) :
  Done P F0 M W0 a w id e (Instr.build t (parts.map fun (i, x) => (i, a.eval x))) := by
 unfold opBuild at he
 split at he
 ·rename_i i hi
  split at he
  ·rename_i fs hk
   split at he
   ·rename_i q hq
    split at he
    ·rename_i hsz
     simp only [Bool.and_eq_true, beq_iff_eq, Bool.not_eq_true'] at hsz
     obtain ⟨⟨hsz, hsz2⟩, hany⟩ := hsz
     cases he
     have hu := (hT t i hi).und
     rw [hk] at hu
     obtain ⟨fields, hf, hmap, hn⟩ := hu
     obtain ⟨info, i1, i2, i3, i4⟩ := (hT t i hi).info
     obtain ⟨places, p1, p2⟩ := places_law (P := P) fields.toList (fun f hf => let ⟨_, inf, h1, _⟩ := hn f hf; ⟨inf, h1⟩)
     obtain ⟨z, z1, z2⟩ := i4 hany
     have hzl := Rep.length _ _ _ (z2 F (mem w) ρ).cells
     obtain ⟨out, hr, hfill⟩ := fields_law (P := P) (places := (places.toArray[·]?)) hT (zero := ⟨nilT i.ty, nilV i.ty i.zero⟩) (zcells := z.cells.toList) (fun F m ρ => ((hT t i hi).nilz info z i1 z1 hany F m ρ).cells) fs 0 0 parts.toList [] hq h rfl (by rw [hzl]; omega) (fun j off ft hj => by
      rw [← hmap, List.getElem?_map] at hj
      cases hfj : fields.toList[j]? with
      | none => simp [hfj] at hj
      | some fd =>
       simp only [hfj, Option.map_some, Option.some.injEq, Prod.mk.injEq] at hj
       obtain ⟨inf, q1, q2⟩ := p2 j fd hfj
       exact ⟨inf, by rw [← hj.2]; exact q1, by rw [← hj.1]; simpa using q2⟩)
     refine done_ret h (val := .agg out.toArray) (run_build w t _ _ ?_) (RepV.of (t := .st q.t) ⟨out, rfl, hr⟩)
     simp only [Program.built, i1, hf, z1, p1, Array.toList_map]
     simpa using hfill
    ·cases he
   ·cases he
  ·cases he
 ·cases he
theorem rows_law {t : Ty} : ∀ (k : Nat) (parts : List (Nat × Operand)) {s s' : St} {l : List t.den} {F : Nat → Prop} {ρ : RK → Option RI}, rowTVs t k parts s = some (l, s') → RelAt F0 M W0 F ρ s a w →
  ∃ (F' : Nat → Prop) (ρ' : RK → Option RI) (vs : List Value), (∀ b, F b → F' b) ∧ (∀ k x, ρ k = some x → ρ' k = some x) ∧ RelAt F0 M W0 F' ρ' s' a w ∧ vs.length = parts.length ∧ l.length = parts.length ∧ parts.map (fun (i, x) => (i, a.eval x)) = (vs.zipIdx k).map (fun x => (x.2, x.1)) ∧
   (∀ (i : Nat) x, l[i]? = some x → ∃ v, vs[i]? = some v ∧ Rep F' (mem w) ρ' t x v.cells.toList) ∧ (∀ v ∈ vs, v.cells.size = t.size)
 | k, [], s, s', l, F, ρ, he, h => by
  simp only [rowTVs] at he
  cases he
  exact ⟨F, ρ, [], fun _ h => h, fun _ _ h => h, h, rfl, rfl, rfl, fun i x hi => by simp at hi, fun v hv => by simp at hv⟩
 | k, (j, x) :: r, s, s', l, F, ρ, he, h => by
  simp only [rowTVs] at he
  split at he
  ·rename_i hj
   have hj : j = k := by simpa using hj
   subst hj
   split at he
   ·rename_i y hy
    split at he
    ·rename_i z s1 hz
     split at he
     ·rename_i v hv
      split at he
      ·rename_i l' s2 hl
       cases he
       obtain ⟨F1, ρ1, hF1, hρ1, h1, hp, hr⟩ := toHold_law h hz (ev_law h hy).1
       have hrc := coe_law _ _ _ _ _ hv hr.cells
       obtain ⟨F2, ρ2, vs, hF2, hρ2, h2, q1, q2, q3, q4, q5⟩ := rows_law (j + 1) r hl h1
       refine ⟨F2, ρ2, a.eval x :: vs, fun b hb => hF2 b (hF1 b hb), fun k x hk => hρ2 k x (hρ1 k x hk), h2, by simp [q1], by simp [q2], by simp [q3, List.zipIdx_cons], fun i u hi => ?_, fun u hu => ?_⟩
       ·cases i with
        | zero => simp only [List.getElem?_cons_zero, Option.some.injEq] at hi; subst hi; exact ⟨_, rfl, Rep.mono hF2 (fun _ _ _ _ h => h) hρ2 _ _ _ hrc⟩
        | succ i => obtain ⟨v', h3, h4⟩ := q4 i u (by simpa using hi); exact ⟨v', by simpa using h3, h4⟩
       ·rcases List.mem_cons.1 hu with rfl | hu
        ·rw [← Array.length_toList]; exact Rep.length _ _ _ hrc
        ·exact q5 u hu
      ·cases he
     ·cases he
    ·cases he
   ·cases he
  ·cases he
theorem run_buildSlice0 {t e : TypeId} {ie : TypeInfo} (hu : P.underlying t = some (.slice e)) (hie : P.info? e = some ie) :
  (Instr.buildSlice t 0 #[]).run P w = .ok (.slice (some (adr (w.heap.size, 0))) 0 0) (w.alloc (.cells #[] e)) := by
 simp [Instr.buildSlice, run_underlying hu, run_sizeOf hie, Instr.fill, run_newRow]
 congr 2
 apply Array.ext'
 simp
theorem fresh_toPure {x y : TV} {s s' : St} (hz : toHold s x = some (y, s')) (hf : ol s.objs id = none) : ol s'.objs id = none := toHold_fresh hz hf
theorem rows_fresh {t : Ty} : ∀ (k : Nat) (parts : List (Nat × Operand)) {s s' : St} {l : List t.den}, rowTVs t k parts s = some (l, s') → ol s.objs id = none → ol s'.objs id = none
 | k, [], s, s', l, he, h => by simp only [rowTVs] at he; cases he; exact h
 | k, (j, x) :: r, s, s', l, he, h => by
  simp only [rowTVs] at he
  split at he
  ·rename_i hj
   have hj : j = k := by simpa using hj
   subst hj
   split at he
   ·split at he
    ·rename_i z s1 hz
     split at he
     ·split at he
      ·rename_i l' s2 hl
       cases he
       exact rows_fresh (j + 1) r hl (fresh_toPure hz h)
      ·cases he
     ·cases he
    ·cases he
   ·cases he
  ·cases he
theorem buildSlice_law (hT : TabOk P tb) (h : RelAt F0 M W0 F ρ s a w) (hf : ol s.objs id = none) {t len : Nat} {parts : Array (Nat × Operand)} {e : Eff R} (he : opBuildSlice tb t len parts id s = some e) :
  Done P F0 M W0 a w id e (Instr.buildSlice t len (parts.map fun (i, x) => (i, a.eval x))) := by
 unfold opBuildSlice at he
 split at he
 ·rename_i e' hel
  split at he
  ·rename_i hpure
   generalize rowTy e'.ty s parts.toList = T at he
   unfold opBuildSliceT at he
   split at he
   case isFalse => cases he
   rename_i hc
   simp only [Bool.and_eq_true, beq_iff_eq, decide_eq_true_eq] at hc
   obtain ⟨⟨⟨⟨hp, hsz⟩, hlen⟩, hsmall⟩, hpos⟩ := hc
   split at he
   ·rename_i l s' hl
    cases he
    obtain ⟨el, inf, h1, h2, h3, h4, h5⟩ := elemOf_law hT hel
    obtain ⟨inf', i1, i2, i3, i4⟩ := h2.info
    rw [h3] at i1; cases i1
    obtain ⟨z, hz, hz'⟩ := i4 (pure_notAny hpure)
    have hzl := Rep.length _ _ _ (hz' F (mem w) ρ).cells
    simp only [Array.length_toList] at hzl
    obtain ⟨F', ρ', vs, hF, hρ', h', q1, q2, q3, q4, q5⟩ := rows_law 0 _ hl h
    have hf' := rows_fresh 0 _ hl hf
    have hll : parts.toList.length = len := by simpa using hlen
    refine done_new h' hf' hp fun u hu => ?_
    cases hu
    have hmap : parts.map (fun (i, x) => (i, a.eval x)) = ((vs.zipIdx 0).map fun x => (x.2, x.1)).toArray := by
     apply Array.ext'; rw [Array.toList_map, q3]
    have hsz' : T.size = inf.size := by rw [hsz, h4]
    by_cases hl0 : len = 0
    ·have hv0 : vs = [] := List.eq_nil_of_length_eq_zero (by omega)
     have hl1 : l = [] := List.eq_nil_of_length_eq_zero (by omega)
     subst hl0 hv0 hl1
     refine ⟨.slice (some (adr (w.heap.size, 0))) 0 0, w, #[], el, 0, Kept.refl _ _, ?_, by simp, by simp, fun i x hi => by simp at hi, ?_⟩
     ·rw [hmap]; exact run_buildSlice0 h1 h3
     ·exact RepV.of (t := .ow id) ⟨rfl, _, ext_same, rfl⟩
    ·have hlv : vs.length = len := by omega
     have hll2 : l.length = len := by omega
     have hfill := Go.Great.fill_whole (s := inf.size) (by omega) vs ((Array.range (len * inf.size)).map (z.cells[· % z.cells.size]!)) (fun v hv => by rw [q5 v hv, hsz']) (by simp [hlv])
     have hrun := run_buildSlice (P := P) w t el len (parts.map (fun (i, x) => (i, a.eval x))) _ inf z h1 h3 hz (by rw [show (2 : Nat) ^ 24 = 16777216 by decide]; rw [← h4] at hsmall; omega) (by rw [Nat.mul_eq_zero]; omega) (by rw [hmap]; exact hfill)
     have hflat := Go.Great.flat_get (s := inf.size) (by omega) vs (fun v hv => by rw [q5 v hv, hsz'])
     have hfl : (vs.flatMap fun v => v.cells.toList).length = len * inf.size := by
      rw [List.length_flatMap]
      have : vs.map (fun v => v.cells.toList.length) = List.replicate len inf.size := by
       rw [List.eq_replicate_iff]
       refine ⟨by simpa using hlv, fun b hb => ?_⟩
       obtain ⟨v, hv, rfl⟩ := List.mem_map.1 hb
       simp [q5 v hv, hsz']
      rw [this, List.sum_replicate_nat]
     refine ⟨_, w, _, el, len, Kept.refl _ _, hrun, (by show l.length ≤ len; omega), by simp [hfl, hsz'], fun i x hi => ?_, ?_⟩
     ·obtain ⟨v, v1, v2⟩ := q4 i x hi
      refine ⟨_, fun j c hj => ?_, v2⟩
      have hvs : v.cells.size = inf.size := by rw [q5 v (List.mem_of_getElem? v1), hsz']
      have hjl : j < inf.size := by
       rw [← hvs, ← Array.length_toList]
       rcases Nat.lt_or_ge j v.cells.toList.length with h6 | h6
       ·exact h6
       ·simp [List.getElem?_eq_none h6] at hj
      have d1 : (i * inf.size + j) / inf.size = i := by
       rw [Nat.mul_comm, Nat.mul_add_div (by omega), Nat.div_eq_of_lt hjl, Nat.add_zero]
      have d2 : (i * inf.size + j) % inf.size = j := by
       rw [Nat.mul_comm, Nat.mul_add_mod]; exact Nat.mod_eq_of_lt hjl
      rw [hsz', List.getElem?_toArray, hflat, d1, d2, v1]
      simpa using hj
     ·exact RepV.of (t := .ow id) ⟨rfl, _, ext_same, by simp [RI.val, adr, hll2]⟩
   ·cases he
  ·cases he
 ·cases he
end Go.Vu
