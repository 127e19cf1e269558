/- Value semantics, part 13: structs and rows that are built; append. -/
import Derived.Test.YtaeobljnmfbdmaaVuMap
import Derived.Great.BuildSlice
set_option linter.unusedVariables false
namespace Go.Vu
open Go
variable {P : Program} {tb : Tab} {R : Type} {F0 : Bs} {M F : Nat → Prop} {W0 w w' : World} {ρ : RK → Option RI} {s : St} {a : Act} {m : Nat → Nat → Option Value} {id : Nat}
theorem fold_seg (pre z : List Value) (v : List Value) (hl : v.length ≤ z.length) :
  ((v.zipIdx 0).foldl (fun cs (x : Value × Nat) => cs.setIfInBounds (pre.length + x.2) x.1) (pre ++ z).toArray) = (pre ++ (v ++ z.drop v.length)).toArray := by
 obtain ⟨h1, h2⟩ := Go.Great.foldl_set pre.length v 0 (pre ++ z).toArray
 apply Array.ext_getElem?
 intro k
 rw [h2 k]
 simp only [List.size_toArray, List.length_append, List.getElem?_toArray, Nat.add_zero]
 by_cases hk : k < pre.length
 ·rw [if_neg (by omega), List.getElem?_append_left hk, List.getElem?_append_left hk]
 ·rw [List.getElem?_append_right (by omega), List.getElem?_append_right (by omega)]
  by_cases hk2 : k - pre.length < v.length
  ·rw [if_pos (by omega), List.getElem?_append_left hk2]
  ·rw [if_neg (by omega), List.getElem?_append_right (by omega), List.getElem?_drop]
   congr 1; omega
theorem fields_law (hT : TabOk P tb) {zero : TV} {zcells : List Value} (hz : ∀ (F : Nat → Prop) (m : Nat → Nat → Option Value) (ρ : RK → Option RI), Rep F m ρ zero.t zero.v zcells) {places : Nat → Option (Nat × Nat)} :
  ∀ (fs : List (Nat × Nat)) (k at' : Nat) (parts : List (Nat × Operand)) {q : TV} (pre : List Value),
   fieldTVs tb zero fs k at' parts s = some q → RelAt F0 M W0 F ρ s a w → pre.length = at' → zcells.length = at' + q.t.size →
   (∀ (i off ft : Nat), fs[i]? = some (off, ft) → ∃ inf, P.info? ft = some inf ∧ places (k + i) = some (off, inf.size)) →
   ∃ out, Rep F (mem w) ρ q.t q.v out ∧
    Instr.fill places (pre ++ zcells.drop at').toArray (parts.map fun (i, x) => (i, a.eval x)) = some (pre ++ out).toArray
 | [], k, at', [], q, pre, he, h, hpre, hsz, _ => by
  simp only [fieldTVs] at he
  cases he
  refine ⟨[], rfl, ?_⟩
  simp only [Ty.size] at hsz
  rw [List.drop_of_length_le (by omega)]
  rfl
 | [], k, at', _ :: _, q, pre, he, h, hpre, hsz, _ => by simp [fieldTVs] at he
 | (off, ft) :: fs, k, at', parts, q, pre, he, h, hpre, hsz, hp => by
  simp only [fieldTVs] at he
  split at he
  ·cases he
  ·rename_i fi hfi
   split at he
   ·rename_i hoff
    have hoff : off = at' := by simpa using hoff
    subst hoff
    obtain ⟨inf, i1, i2⟩ := hp 0 off ft rfl
    obtain ⟨inf', i1', i3, _⟩ := (hT ft fi hfi).info
    rw [i1] at i1'; cases i1'
    have hp' : ∀ (i o t : Nat), fs[i]? = some (o, t) → ∃ inf, P.info? t = some inf ∧ places (k + 1 + i) = some (o, inf.size) := fun i o t hi => by
     obtain ⟨inf, j1, j2⟩ := hp (i + 1) o t (by simpa using hi)
     exact ⟨inf, j1, by rw [← j2]; congr 1; omega⟩
    split at he
    ·rename_i x r hpart
     obtain ⟨rfl⟩ : parts = (k, x) :: r := by
      cases parts with
      | nil => cases hpart
      | cons y ys =>
       obtain ⟨j, x'⟩ := y
       simp only at hpart
       split at hpart
       ·rename_i hj
        have : j = k := by simpa using hj
        subst this
        cases hpart; rfl
       ·cases hpart
     split at he
     ·rename_i y hy
      split at he
      ·rename_i hys
       simp only [Bool.and_eq_true, beq_iff_eq] at hys
       obtain ⟨hys, hyc⟩ := hys
       split at he
       ·rename_i q' hq
        have hrc := RepV.cells hyc (ev_law h hy).1
        have hrl := Rep.length _ _ _ hrc
        have hqs : q.t.size = y.t.size + q'.t.size ∧
          (∀ c1 c2, Rep F (mem w) ρ y.t y.v c1 → Rep F (mem w) ρ q'.t q'.v c2 → Rep F (mem w) ρ q.t q.v (c1 ++ c2)) := by
         cases fs with
         | nil =>
          simp only at he
          cases he
          have : q' = ⟨.unit, ()⟩ := by
           cases r with
           | nil => simp only [fieldTVs] at hq; cases hq; rfl
           | cons _ _ => simp [fieldTVs] at hq
          subst this
          exact ⟨by simp [Ty.size], fun c1 c2 r1 r2 => by cases r2; simpa using r1⟩
         | cons g fs =>
          simp only at he
          cases he
          exact ⟨rfl, fun c1 c2 r1 r2 => ⟨c1, c2, rfl, r1, r2⟩⟩
        obtain ⟨e1, e3⟩ := hqs
        obtain ⟨out, hr2, hfill⟩ := fields_law hT hz fs (k + 1) (off + fi.sz) r (pre ++ (a.eval x).cells.toList) hq h (by simp only [List.length_append, hpre, hrl, hys]) (by omega) hp'
        refine ⟨(a.eval x).cells.toList ++ out, e3 _ _ hrc hr2, ?_⟩
        simp only [List.map_cons, Instr.fill]
        have i2' : places k = some (off, inf.size) := by simpa using i2
        simp only [i2']
        have hcs : (a.eval x).cells.size = inf.size := by rw [← Array.length_toList, hrl, hys, ← i3]
        have hlen : (zcells.drop off).length = q.t.size := by simp; omega
        rw [if_neg (by simp; omega)]
        rw [← hpre] at hfill ⊢
        have hfs := fold_seg pre (zcells.drop pre.length) (a.eval x).cells.toList (by rw [hrl]; rw [hpre]; omega)
        rw [← Array.foldl_toList, Array.toList_zipIdx]
        refine Eq.trans (congrArg (fun c => Instr.fill places c (r.map fun (i, x) => (i, a.eval x))) hfs) ?_
        rw [List.drop_drop]
        have hd : (a.eval x).cells.toList.length + pre.length = pre.length + fi.sz := by rw [hrl, hys]; omega
        rw [show pre.length + (a.eval x).cells.toList.length = pre.length + fi.sz by omega]
        simpa [List.append_assoc] using hfill
       ·cases he
      ·cases he
     ·cases he
    ·rename_i hpart
     split at he
     ·rename_i l hl
      split at he
      ·rename_i hlp
       split at he
       ·rename_i q' hq
        obtain ⟨g1, g2, c1, c2, c3, ez, el, hr, _⟩ := comp_law (F := F) (m := mem w) (ρ := ρ) _ _ _ _ _ hl zero.v zcells (hz F (mem w) ρ)
        have hrl := Rep.length _ _ _ hr
        have hqs : q.t.size = l.t.size + q'.t.size ∧
          (∀ c1 c2, Rep F (mem w) ρ l.t (l.g zero.v) c1 → Rep F (mem w) ρ q'.t q'.v c2 → Rep F (mem w) ρ q.t q.v (c1 ++ c2)) := by
         cases fs with
         | nil =>
          simp only at he
          cases he
          have : q' = ⟨.unit, ()⟩ := by
           cases parts with
           | nil => simp only [fieldTVs] at hq; cases hq; rfl
           | cons _ _ => simp [fieldTVs] at hq
          subst this
          exact ⟨by simp [Ty.size], fun c1 c2 r1 r2 => by cases r2; simpa using r1⟩
         | cons g fs =>
          simp only at he
          cases he
          exact ⟨rfl, fun c1 c2 r1 r2 => ⟨c1, c2, rfl, r1, r2⟩⟩
        obtain ⟨e1, e3⟩ := hqs
        obtain ⟨out, hr2, hfill⟩ := fields_law hT hz fs (k + 1) (off + fi.sz) parts (pre ++ c2) hq h (by simp [hpre, hrl, g1]) (by omega) hp'
        refine ⟨c2 ++ out, e3 _ _ hr hr2, ?_⟩
        have hd : zcells.drop off = c2 ++ zcells.drop (off + fi.sz) := by
         rw [ez, List.append_assoc, List.drop_append_of_le_length (by omega), List.drop_of_length_le (by omega)]
         simp only [List.nil_append]
         rw [show off + fi.sz = c1.length + c2.length by omega, ← List.append_assoc, List.drop_append_of_le_length (by simp), List.drop_of_length_le (by simp)]
         simp
        rw [hd, ← List.append_assoc, hfill, List.append_assoc]
       ·cases he
      ·cases he
     ·cases he
   ·cases he
theorem range_law (hT : TabOk P tb) (h : RelAt F0 M W0 F ρ s a w) (hf : ol s.objs id = none) {t : Nat} {x : Operand} {e : Eff R} (he : opRange tb t x id s = some e) :
  Done P F0 M W0 a w id e (Instr.range t (a.eval x)) := by
 unfold opRange at he
 split at he
 ·rename_i l i hx hi
  have hu := (hT t i hi).und
  split at he
  ·rename_i hk
   rw [hk] at hu
   cases he
   intro v hv
   cases hv
   refine ⟨.pointer (some (adr (w.heap.size, 0))), w.alloc (.stringIter ⟨l.toArray⟩ 0), F, ext ρ id ⟨some (w.heap.size, 0), none, 1, 1, 1, []⟩, ?_, fun d => ?_⟩
   ·simp only [Instr.range, Sem.run_bind, run_underlying hu, Result.andThen_ok, evStr h hx, Sem.run_pure, run_newObj_alloc]
    rfl
   ·exact RelAt.put (newC_law (o := .stringIter ⟨l.toArray⟩ 0) (c := .it l 0) h hf (fun b hb => by
     obtain ⟨p, hp, rfl⟩ := blk_nosub rfl hb
     cases hp; rfl) ⟨⟨rfl, rfl⟩, w.heap.size, rfl, by show (w.heap.push _)[w.heap.size]? = _; simp⟩) d ⟨.pad id 0, ()⟩ _ (RepV.of (t := .pad id 0) ⟨rfl, _, (w.heap.size, 0), ext_same, rfl, rfl⟩)
  ·cases he
 ·rename_i r u i hx hi
  have hu := (hT t i hi).und
  split at he
  ·rename_i k' e' hk
   rw [hk] at hu
   obtain ⟨kt, hu, _⟩ := hu
   split at he
   ·rename_i k v l hc
    cases he
    exact rangeMap_law h hf hu hx hc
   ·cases he
  ·cases he
 ·cases he
theorem next_law (h : RelAt F0 M W0 F ρ s a w) {x : Operand} {b : Bool} {ty : TypeId} {e : Eff R} (he : opNext x b s = some e) :
  Done P F0 M W0 a w id e (Instr.next (a.eval x) b ty) := by
 unfold opNext at he
 split at he
 ·rename_i r u hx
  split at he
  ·rename_i y hy
   cases he
   intro v hv
   cases hv
   obtain ⟨l, q⟩ := y
   obtain ⟨ri, p, h1, h2, h3⟩ := evPad h hx
   have hc := St.itc_cont.1 hy
   obtain ⟨ri', h1', ho⟩ := h.cobj r _ hc
   rw [h1] at h1'; cases h1'
   have ho : SRep w ri l q := ho
   obtain ⟨k, g1, g2⟩ := ho.ex
   rw [h2] at g1; cases g1
   have hown := h.cown r _ ri k hc h1 (RI.blkA h2)
   have hsz : (⟨l.toArray⟩ : ByteArray).size = l.length := by simp [ByteArray.size]
   have hk' : s.cont r ≠ none := by rw [hc]; simp
   have hdead : RelAt F0 M W0 F ρ (s.setObj r .dead) a w := h.kill r
   have key : ∀ q', RelAt F0 M W0 F ρ ((s.setObj r .dead).setObj r (.live (.it l q'))) a { w with heap := w.heap.setIfInBounds k (.stringIter ⟨l.toArray⟩ q') } := fun q' => by
    have hlt := heap_lt g2
    have hK : Kept (fun b => b = k) w { w with heap := w.heap.setIfInBounds k (.stringIter ⟨l.toArray⟩ q') } :=
     ⟨rfl, rfl, rfl, by simp, fun i hi hn => by simp only [Array.getElem?_setIfInBounds]; rw [if_neg (Ne.symm hn)], fun i c el fr hi => ⟨c, by
      have hne : k ≠ i := fun e => by subst e; rw [g2] at hi; cases hi
      simp only [Array.getElem?_setIfInBounds]; rw [if_neg hne]; exact hi, rfl⟩⟩
    have h5 := hdead.world _ hK (fun b hb => by
     subst hb
     refine ⟨hown.1, fun r' c ri' hr' hρ' hb' => ?_, fun hlt' => hown.2.resolve_left (by omega)⟩
     have hne : (r : RK) ≠ r' := fun e => by rw [St.cont_setObj, if_pos e] at hr'; cases hr'
     rw [St.cont_setObj, if_neg hne] at hr'
     exact hne (h.csep r r' _ c ri ri' b hc hr' h1 hρ' (RI.blkA h2) hb'))
    refine h5.live r ri (.it l q') (by rw [St.cont_setObj_same]; rfl) h1 ⟨ho.bare, k, h2, by simp [hlt]⟩ fun b hb => ?_
    obtain ⟨p', hp', rfl⟩ := blk_nosub ho.bare.1 hb
    rw [h2] at hp'; cases hp'
    refine ⟨hown.1, hown.2, fun r' c ri' hr' hρ' hb' => ?_⟩
    have hne : (r : RK) ≠ r' := fun e => by rw [St.cont_setObj, if_pos e] at hr'; cases hr'
    rw [St.cont_setObj, if_neg hne] at hr'
    exact hne (h.csep r r' _ c ri ri' _ hc hr' h1 hρ' (RI.blkA h2) hb')
   have hp0 : a.eval x = .pointer (some ⟨k, 0, none⟩) := h3
   have hget : (getObj k).run P w = .ok (.stringIter ⟨l.toArray⟩ q) w := by simp only [getObj, Sem.run, g2]
   by_cases hq : q < l.length
   ·have hset : ∀ q', (setObj k (.stringIter ⟨l.toArray⟩ q')).run P w = .ok () { w with heap := w.heap.setIfInBounds k (.stringIter ⟨l.toArray⟩ q') } := fun q' => by simp only [setObj, Sem.run, g2]
    refine ⟨.tuple #[.bool true, goInt q, .int .i32 (Utf8.decode ⟨l.toArray⟩ q).1], { w with heap := w.heap.setIfInBounds k (.stringIter ⟨l.toArray⟩ (q + (Utf8.decode ⟨l.toArray⟩ q).2)) }, F, ρ, ?_, fun d => RelAt.put ?_ d ⟨.tup (.nxt (.int .i64) (.int .i32)), (itNext l q).1⟩ _ ?_⟩
    ·simp only [Instr.next, hp0, Sem.run_bind, hget, Result.andThen_ok, hsz, if_pos hq, hset, Sem.run_pure]
    ·simp only [itNext, if_pos hq]
     exact key _
    ·simp only [itNext, if_pos hq]
     exact ⟨_, rfl, _, _, rfl, ⟨rfl, rfl⟩, ⟨rfl, rfl⟩⟩
   ·refine ⟨.tuple #[.bool false], w, F, ρ, ?_, fun d => RelAt.put ?_ d ⟨.tup (.nxt (.int .i64) (.int .i32)), (itNext l q).1⟩ _ ?_⟩
    ·simp only [Instr.next, hp0, Sem.run_bind, hget, Result.andThen_ok, hsz, if_neg hq, Sem.run_pure]
    ·simp only [itNext, if_neg hq]
     have hw : { w with heap := w.heap.setIfInBounds k (.stringIter ⟨l.toArray⟩ q) } = w := by
      have : w.heap.setIfInBounds k (.stringIter ⟨l.toArray⟩ q) = w.heap := by
       apply Array.ext_getElem?
       intro i
       simp only [Array.getElem?_setIfInBounds]
       split
       ·rename_i e; subst e; rw [if_pos (heap_lt g2)]; exact g2.symm
       ·rfl
      rw [this]
     have := key q
     rw [hw] at this
     exact this
    ·simp only [itNext, if_neg hq]
     exact ⟨_, rfl, rfl⟩
  ·cases he
 ·cases he
end Go.Vu
