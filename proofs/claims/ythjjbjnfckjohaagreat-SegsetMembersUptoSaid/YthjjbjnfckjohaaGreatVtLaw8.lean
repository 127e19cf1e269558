/- Value semantics, part 13: structs and rows that are built; append. -/
import Derived.Test.YthjjbjnfckjohaaGreatVtLaw7
import Derived.Great.BuildSlice
set_option linter.unusedVariables false
namespace Go.Vt
open Go

variable {P : Program} {tb : Tab} {R : Type} {F0 M F : Nat → Prop} {W0 w w' : World} {ρ : Nat → Option RI} {s : St} {a : Act} {m : Nat → Nat → Option Value} {id : Nat}

theorem fold_seg (pre z : List Value) (v : List Value) (hl : v.length ≤ z.length) :
    ((v.zipIdx 0).foldl (fun cs (x : Value × Nat) => cs.setIfInBounds (pre.length + x.2) x.1) (pre ++ z).toArray) = (pre ++ (v ++ z.drop v.length)).toArray := by
  obtain ⟨h1, h2⟩ := Go.Great.foldl_set pre.length v 0 (pre ++ z).toArray
  apply Array.ext_getElem?
  intro k
  rw [h2 k]
  simp only [List.size_toArray, List.length_append, List.getElem?_toArray, Nat.add_zero]
  by_cases hk : k < pre.length
  · rw [if_neg (by omega), List.getElem?_append_left hk, List.getElem?_append_left hk]
  · rw [List.getElem?_append_right (by omega), List.getElem?_append_right (by omega)]
    by_cases hk2 : k - pre.length < v.length
    · rw [if_pos (by omega), List.getElem?_append_left hk2]
    · rw [if_neg (by omega), List.getElem?_append_right (by omega), List.getElem?_drop]
      congr 1; omega

theorem fields_law (hT : TabOk P tb) {zero : TV} {zcells : List Value} (hz : ∀ (F : Nat → Prop) (m : Nat → Nat → Option Value) (ρ : Nat → Option RI), Rep F m ρ zero.t zero.v zcells) {places : Nat → Option (Nat × Nat)} :
    ∀ (fs : List (Nat × Nat)) (k at' : Nat) (parts : List (Nat × Operand)) {q : TV} (pre : List Value),
      fieldTVs tb zero fs k at' parts s = some q → RelAt F0 M W0 F ρ s a w → pre.length = at' → zcells.length = at' + q.t.size →
      (∀ (i off ft : Nat), fs[i]? = some (off, ft) → ∃ inf, P.info? ft = some inf ∧ places (k + i) = some (off, inf.size)) →
      ∃ out, Rep F (mem w) ρ q.t q.v out ∧
        Instr.fill places (pre ++ zcells.drop at').toArray (parts.map fun (i, x) => (i, a.eval x)) = some (pre ++ out).toArray
  | [], k, at', [], q, pre, he, h, hpre, hsz, _ => by
    simp only [fieldTVs] at he
    cases he
    refine ⟨[], rfl, ?_⟩
    simp only [Ty.size] at hsz
    rw [List.drop_of_length_le (by omega)]
    rfl
  | [], k, at', _ :: _, q, pre, he, h, hpre, hsz, _ => by simp [fieldTVs] at he
  | (off, ft) :: fs, k, at', parts, q, pre, he, h, hpre, hsz, hp => by
    simp only [fieldTVs] at he
    split at he
    · cases he
    · rename_i fi hfi
      split at he
      · rename_i hoff
        have hoff : off = at' := by simpa using hoff
        subst hoff
        obtain ⟨inf, i1, i2⟩ := hp 0 off ft rfl
        obtain ⟨inf', i1', i3, _⟩ := (hT ft fi hfi).info
        rw [i1] at i1'; cases i1'
        have hp' : ∀ (i o t : Nat), fs[i]? = some (o, t) → ∃ inf, P.info? t = some inf ∧ places (k + 1 + i) = some (o, inf.size) := fun i o t hi => by
          obtain ⟨inf, j1, j2⟩ := hp (i + 1) o t (by simpa using hi)
          exact ⟨inf, j1, by rw [← j2]; congr 1; omega⟩
        split at he
        · rename_i x r hpart
          obtain ⟨rfl⟩ : parts = (k, x) :: r := by
            cases parts with
            | nil => cases hpart
            | cons y ys =>
              obtain ⟨j, x'⟩ := y
              simp only at hpart
              split at hpart
              · rename_i hj
                have : j = k := by simpa using hj
                subst this
                cases hpart; rfl
              · cases hpart
          split at he
          · rename_i y hy
            split at he
            · rename_i hys
              simp only [Bool.and_eq_true, beq_iff_eq] at hys
              obtain ⟨hys, hyc⟩ := hys
              split at he
              · rename_i q' hq
                have hrc := RepV.cells hyc (ev_law h hy).1
                have hrl := Rep.length _ _ _ hrc
                have hqs : q.t.size = y.t.size + q'.t.size ∧
                    (∀ c1 c2, Rep F (mem w) ρ y.t y.v c1 → Rep F (mem w) ρ q'.t q'.v c2 → Rep F (mem w) ρ q.t q.v (c1 ++ c2)) := by
                  cases fs with
                  | nil =>
                    simp only at he
                    cases he
                    have : q' = ⟨.unit, ()⟩ := by
                      cases r with
                      | nil => simp only [fieldTVs] at hq; cases hq; rfl
                      | cons _ _ => simp [fieldTVs] at hq
                    subst this
                    exact ⟨by simp [Ty.size], fun c1 c2 r1 r2 => by cases r2; simpa using r1⟩
                  | cons g fs =>
                    simp only at he
                    cases he
                    exact ⟨rfl, fun c1 c2 r1 r2 => ⟨c1, c2, rfl, r1, r2⟩⟩
                obtain ⟨e1, e3⟩ := hqs
                obtain ⟨out, hr2, hfill⟩ := fields_law hT hz fs (k + 1) (off + fi.sz) r (pre ++ (a.eval x).cells.toList) hq h (by simp only [List.length_append, hpre, hrl, hys]) (by omega) hp'
                refine ⟨(a.eval x).cells.toList ++ out, e3 _ _ hrc hr2, ?_⟩
                simp only [List.map_cons, Instr.fill]
                have i2' : places k = some (off, inf.size) := by simpa using i2
                simp only [i2']
                have hcs : (a.eval x).cells.size = inf.size := by rw [← Array.length_toList, hrl, hys, ← i3]
                have hlen : (zcells.drop off).length = q.t.size := by simp; omega
                rw [if_neg (by simp; omega)]
                rw [← hpre] at hfill ⊢
                have hfs := fold_seg pre (zcells.drop pre.length) (a.eval x).cells.toList (by rw [hrl]; rw [hpre]; omega)
                rw [← Array.foldl_toList, Array.toList_zipIdx]
                refine Eq.trans (congrArg (fun c => Instr.fill places c (r.map fun (i, x) => (i, a.eval x))) hfs) ?_
                rw [List.drop_drop]
                have hd : (a.eval x).cells.toList.length + pre.length = pre.length + fi.sz := by rw [hrl, hys]; omega
                rw [show pre.length + (a.eval x).cells.toList.length = pre.length + fi.sz by omega]
                simpa [List.append_assoc] using hfill
              · cases he
            · cases he
          · cases he
        · rename_i hpart
          split at he
          · rename_i l hl
            split at he
            · rename_i hlp
              split at he
              · rename_i q' hq
                obtain ⟨g1, g2, c1, c2, c3, ez, el, hr, _⟩ := comp_law (F := F) (m := mem w) (ρ := ρ) _ _ _ _ _ hl zero.v zcells (hz F (mem w) ρ)
                have hrl := Rep.length _ _ _ hr
                have hqs : q.t.size = l.t.size + q'.t.size ∧
                    (∀ c1 c2, Rep F (mem w) ρ l.t (l.g zero.v) c1 → Rep F (mem w) ρ q'.t q'.v c2 → Rep F (mem w) ρ q.t q.v (c1 ++ c2)) := by
                  cases fs with
                  | nil =>
                    simp only at he
                    cases he
                    have : q' = ⟨.unit, ()⟩ := by
                      cases parts with
                      | nil => simp only [fieldTVs] at hq; cases hq; rfl
                      | cons _ _ => simp [fieldTVs] at hq
                    subst this
                    exact ⟨by simp [Ty.size], fun c1 c2 r1 r2 => by cases r2; simpa using r1⟩
                  | cons g fs =>
                    simp only at he
                    cases he
                    exact ⟨rfl, fun c1 c2 r1 r2 => ⟨c1, c2, rfl, r1, r2⟩⟩
                obtain ⟨e1, e3⟩ := hqs
                obtain ⟨out, hr2, hfill⟩ := fields_law hT hz fs (k + 1) (off + fi.sz) parts (pre ++ c2) hq h (by simp [hpre, hrl, g1]) (by omega) hp'
                refine ⟨c2 ++ out, e3 _ _ hr hr2, ?_⟩
                have hd : zcells.drop off = c2 ++ zcells.drop (off + fi.sz) := by
                  rw [ez, List.append_assoc, List.drop_append_of_le_length (by omega), List.drop_of_length_le (by omega)]
                  simp only [List.nil_append]
                  rw [show off + fi.sz = c1.length + c2.length by omega, ← List.append_assoc, List.drop_append_of_le_length (by simp), List.drop_of_length_le (by simp)]
                  simp
                rw [hd, ← List.append_assoc, hfill, List.append_assoc]
              · cases he
            · cases he
          · cases he
      · cases he

end Go.Vt
