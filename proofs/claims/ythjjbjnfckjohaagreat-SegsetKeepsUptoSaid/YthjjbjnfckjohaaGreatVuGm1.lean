/- Sets of numbers as lists of ranges: normal lists, and that a set has one. -/
set_option linter.unusedVariables false
namespace Go.Vu.Rm
abbrev Rg := Int × Int
def inR (r : Rg) (x : Int) : Prop := r.1 ≤ x ∧ x ≤ r.2
def Mem (l : List Rg) (x : Int) : Prop := 0 ≤ x ∧ x ≤ 1114111 ∧ ∃ r ∈ l, inR r x
def NrmF : Int → List Rg → Prop
 | _, [] => True
 | b, r :: l => b ≤ r.1 ∧ r.1 ≤ r.2 ∧ r.2 ≤ 1114111 ∧ NrmF (r.2 + 2) l
abbrev Nrm (l : List Rg) : Prop := NrmF 0 l
theorem NrmF.mono : ∀ {l : List Rg} {b c : Int}, NrmF b l → c ≤ b → NrmF c l
 | [], _, _, _, _ => trivial
 | r :: l, b, c, h, hc => ⟨by have := h.1; omega, h.2⟩
theorem NrmF.ge : ∀ {l : List Rg} {b : Int}, NrmF b l → ∀ r ∈ l, b ≤ r.1 ∧ r.1 ≤ r.2 ∧ r.2 ≤ 1114111
 | [], _, _, r, hr => by cases hr
 | q :: l, b, h, r, hr => by
  rcases List.mem_cons.1 hr with rfl | hr
  ·exact ⟨h.1, h.2.1, h.2.2.1⟩
  ·have := NrmF.ge h.2.2.2 r hr
   have h2 := h.1; have h3 := h.2.1
   exact ⟨by omega, this.2⟩
theorem nrm_unique : ∀ (l l' : List Rg) (b : Int), NrmF b l → NrmF b l' → (∀ x, (∃ r ∈ l, inR r x) ↔ (∃ r ∈ l', inR r x)) → l = l'
 | [], [], _, _, _, _ => rfl
 | [], r :: l', _, _, h', he => by
  obtain ⟨q, hq, _⟩ := (he r.1).2 ⟨r, by simp, Int.le_refl _, h'.2.1⟩
  cases hq
 | r :: l, [], _, h, _, he => by
  obtain ⟨q, hq, _⟩ := (he r.1).1 ⟨r, by simp, Int.le_refl _, h.2.1⟩
  cases hq
 | r :: l, r' :: l', b, h, h', he => by
  have hl := NrmF.ge h.2.2.2
  have hl' := NrmF.ge h'.2.2.2
  have hr := h.2.1
  have hr' := h'.2.1
  have lo1 : ∀ x, (∃ q ∈ r :: l, inR q x) → r.1 ≤ x := by
   rintro x ⟨q, hq, h1, h2⟩
   rcases List.mem_cons.1 hq with rfl | hq
   ·exact h1
   ·have := hl q hq; omega
  have lo2 : ∀ x, (∃ q ∈ r' :: l', inR q x) → r'.1 ≤ x := by
   rintro x ⟨q, hq, h1, h2⟩
   rcases List.mem_cons.1 hq with rfl | hq
   ·exact h1
   ·have := hl' q hq; omega
  have e1 : r.1 = r'.1 := by
   have a1 := lo1 r'.1 ((he _).2 ⟨r', by simp, Int.le_refl _, hr'⟩)
   have a2 := lo2 r.1 ((he _).1 ⟨r, by simp, Int.le_refl _, hr⟩)
   omega
  have e2 : r.2 = r'.2 := by
   rcases Int.lt_trichotomy r.2 r'.2 with h3 | h3 | h3
   ·obtain ⟨q, hq, h4, h5⟩ := (he (r.2 + 1)).2 ⟨r', by simp, by show r'.1 ≤ r.2 + 1; omega, by show r.2 + 1 ≤ r'.2; omega⟩
    rcases List.mem_cons.1 hq with rfl | hq
    ·omega
    ·have := hl q hq; omega
   ·exact h3
   ·obtain ⟨q, hq, h4, h5⟩ := (he (r'.2 + 1)).1 ⟨r, by simp, by show r.1 ≤ r'.2 + 1; omega, by show r'.2 + 1 ≤ r.2; omega⟩
    rcases List.mem_cons.1 hq with rfl | hq
    ·omega
    ·have := hl' q hq; omega
  have e : r = r' := Prod.ext e1 e2
  subst e
  congr 1
  refine nrm_unique l l' (r.2 + 2) h.2.2.2 h'.2.2.2 fun x => ?_
  constructor
  ·rintro ⟨q, hq, h3⟩
   obtain ⟨q', hq', h4⟩ := (he x).1 ⟨q, by simp [hq], h3⟩
   rcases List.mem_cons.1 hq' with rfl | hq'
   ·have := hl q hq
    have h5 := h3.1; have h6 := h4.2
    omega
   ·exact ⟨q', hq', h4⟩
  ·rintro ⟨q, hq, h3⟩
   obtain ⟨q', hq', h4⟩ := (he x).2 ⟨q, by simp [hq], h3⟩
   rcases List.mem_cons.1 hq' with rfl | hq'
   ·have := hl' q hq
    have h5 := h3.1; have h6 := h4.2
    omega
   ·exact ⟨q', hq', h4⟩
theorem mem_iff {l : List Rg} (h : Nrm l) (x : Int) : Mem l x ↔ ∃ r ∈ l, inR r x := by
 constructor
 ·exact fun h => h.2.2
 ·rintro ⟨r, hr, h1, h2⟩
  have := NrmF.ge h r hr
  exact ⟨by omega, by omega, r, hr, h1, h2⟩
theorem unique {l l' : List Rg} (h : Nrm l) (h' : Nrm l') (he : ∀ x, Mem l x ↔ Mem l' x) : l = l' :=
 nrm_unique l l' 0 h h' fun x => by rw [← mem_iff h, ← mem_iff h', he]
theorem nrm_length : ∀ {l : List Rg} {b : Int}, NrmF b l → b ≤ 1114111 + 2 → (l.length : Int) ≤ 1114111 + 2 - b
 | [], b, _, hb => by simp; omega
 | r :: l, b, h, hb => by
  have h1 := h.1; have h2 := h.2.1; have h3 := h.2.2.1
  have := nrm_length h.2.2.2 (by omega)
  simp only [List.length_cons]
  omega
theorem nrm_len {l : List Rg} (h : Nrm l) : l.length ≤ 1114113 := by
 have := nrm_length h (by decide)
 omega
def clip1 (r : Rg) : Rg := (if (0 : Int) > r.1 then 0 else r.1, if (1114111 : Int) < r.2 then 1114111 else r.2)
def clipL (l : List Rg) : List Rg := l.filterMap fun r => if (clip1 r).1 ≤ (clip1 r).2 then some (clip1 r) else none
theorem clip_in {r : Rg} {x : Int} (h0 : 0 ≤ x) (h1 : x ≤ 1114111) : inR r x ↔ ((clip1 r).1 ≤ (clip1 r).2 ∧ inR (clip1 r) x) := by
 unfold inR clip1
 simp only
 constructor
 ·intro h
  split <;> split <;> refine ⟨?_, ?_, ?_⟩ <;> omega
 ·intro h
  split at h <;> split at h <;> omega
theorem clip_valid {l : List Rg} {r : Rg} (h : r ∈ clipL l) : 0 ≤ r.1 ∧ r.1 ≤ r.2 ∧ r.2 ≤ 1114111 := by
 obtain ⟨q, hq, h1⟩ := List.mem_filterMap.1 h
 split at h1
 ·cases h1
  rename_i h2
  refine ⟨?_, h2, ?_⟩
  ·simp only [clip1]; split <;> omega
  ·simp only [clip1]; split <;> omega
 ·cases h1
theorem clip_mem (l : List Rg) (x : Int) : Mem (clipL l) x ↔ Mem l x := by
 unfold Mem
 constructor
 ·rintro ⟨h0, h1, r, hr, h⟩
  obtain ⟨q, hq, h2⟩ := List.mem_filterMap.1 hr
  split at h2
  ·cases h2
   exact ⟨h0, h1, q, hq, (clip_in h0 h1).2 ⟨by assumption, h⟩⟩
  ·cases h2
 ·rintro ⟨h0, h1, r, hr, h⟩
  obtain ⟨h2, h3⟩ := (clip_in h0 h1).1 h
  exact ⟨h0, h1, clip1 r, List.mem_filterMap.2 ⟨r, hr, by rw [if_pos h2]⟩, h3⟩
theorem clip_length (l : List Rg) : (clipL l).length ≤ l.length := List.length_filterMap_le _ _
def mergeC : Rg → List Rg → List Rg
 | z, [] => [z]
 | z, r :: l => if r.1 ≤ z.2 + 1 then mergeC (z.1, if r.2 > z.2 then r.2 else z.2) l else z :: mergeC r l
def mergeL : List Rg → List Rg
 | [] => []
 | z :: l => mergeC z l
def SortedLo : List Rg → Prop := List.Pairwise fun a b => a.1 ≤ b.1
def Valid (l : List Rg) : Prop := ∀ r ∈ l, 0 ≤ r.1 ∧ r.1 ≤ r.2 ∧ r.2 ≤ 1114111
theorem mergeC_nrm : ∀ (l : List Rg) (z : Rg) (b : Int), SortedLo (z :: l) → Valid (z :: l) → b ≤ z.1 → NrmF b (mergeC z l)
 | [], z, b, hs, hv, hb => by
  have := hv z (by simp)
  exact ⟨hb, this.2.1, this.2.2, trivial⟩
 | r :: l, z, b, hs, hv, hb => by
  have hz := hv z (by simp)
  have hr := hv r (by simp)
  have hzr : z.1 ≤ r.1 := (List.pairwise_cons.1 hs).1 r (by simp)
  have hs2 := (List.pairwise_cons.1 hs).2
  simp only [mergeC]
  split
  ·refine mergeC_nrm l _ b ?_ ?_ hb
   ·refine List.pairwise_cons.2 ⟨fun q hq => ?_, (List.pairwise_cons.1 hs2).2⟩
    exact (List.pairwise_cons.1 hs).1 q (by simp [hq])
   ·intro q hq
    rcases List.mem_cons.1 hq with rfl | hq
    ·simp only
     refine ⟨hz.1, ?_, ?_⟩ <;> split <;> omega
    ·exact hv q (by simp [hq])
  ·refine ⟨hb, hz.2.1, hz.2.2, mergeC_nrm l r _ hs2 (fun q hq => hv q (by simp at hq ⊢; exact .inr hq)) (by omega)⟩
theorem mergeC_in : ∀ (l : List Rg) (z : Rg) (x : Int), SortedLo (z :: l) → Valid (z :: l) → ((∃ r ∈ mergeC z l, inR r x) ↔ (∃ r ∈ z :: l, inR r x))
 | [], z, x, _, _ => by simp [mergeC]
 | r :: l, z, x, hs, hv => by
  have hz := hv z (by simp)
  have hr := hv r (by simp)
  have hzr : z.1 ≤ r.1 := (List.pairwise_cons.1 hs).1 r (by simp)
  have hs2 := (List.pairwise_cons.1 hs).2
  simp only [mergeC]
  split
  ·rename_i hc
   have hs3 : SortedLo ((z.1, if r.2 > z.2 then r.2 else z.2) :: l) := List.pairwise_cons.2 ⟨fun q hq => (List.pairwise_cons.1 hs).1 q (by simp [hq]), (List.pairwise_cons.1 hs2).2⟩
   have hv3 : Valid ((z.1, if r.2 > z.2 then r.2 else z.2) :: l) := by
    intro q hq
    rcases List.mem_cons.1 hq with rfl | hq
    ·simp only
     refine ⟨hz.1, ?_, ?_⟩ <;> split <;> omega
    ·exact hv q (by simp [hq])
   rw [mergeC_in l _ x hs3 hv3]
   have key : inR (z.1, if r.2 > z.2 then r.2 else z.2) x ↔ inR z x ∨ inR r x := by
    unfold inR
    simp only
    constructor
    ·intro h; split at h <;> omega
    ·intro h; split <;> omega
   simp only [List.mem_cons, exists_eq_or_imp]
   rw [key, or_assoc]
  ·simp only [List.mem_cons, exists_eq_or_imp]
   have := mergeC_in l r x hs2 (fun q hq => hv q (by simp at hq ⊢; exact .inr hq))
   simp only [List.mem_cons, exists_eq_or_imp] at this
   rw [this]
theorem mergeL_nrm {s : List Rg} (hs : SortedLo s) (hv : Valid s) : Nrm (mergeL s) := by
 cases s with
 | nil => trivial
 | cons z l => exact mergeC_nrm l z 0 hs hv (hv z (by simp)).1
theorem mergeL_mem {s : List Rg} (hs : SortedLo s) (hv : Valid s) (x : Int) : Mem (mergeL s) x ↔ Mem s x := by
 cases s with
 | nil => exact Iff.rfl
 | cons z l =>
  unfold Mem
  rw [show (∃ r ∈ mergeL (z :: l), inR r x) ↔ _ from mergeC_in l z x hs hv]
noncomputable def norm (l : List Rg) : List Rg := mergeL ((clipL l).mergeSort fun a b => decide (a.1 ≤ b.1))
theorem norm_of {l s : List Rg} (hp : s.Perm (clipL l)) (hs : SortedLo s) : Nrm (mergeL s) ∧ ∀ x, Mem (mergeL s) x ↔ Mem l x := by
 have hv : Valid s := fun r hr => clip_valid (hp.mem_iff.1 hr)
 refine ⟨mergeL_nrm hs hv, fun x => ?_⟩
 rw [mergeL_mem hs hv, ← clip_mem l x]
 unfold Mem
 simp only [hp.mem_iff]
theorem norm_spec (l : List Rg) : Nrm (norm l) ∧ ∀ x, Mem (norm l) x ↔ Mem l x := by
 refine norm_of (List.mergeSort_perm _ _) ?_
 have := List.pairwise_mergeSort (le := fun a b : Rg => decide (a.1 ≤ b.1)) (fun a b c h1 h2 => by simp at h1 h2 ⊢; omega) (fun a b => by simp; omega) (clipL l)
 exact this.imp (fun h => by simpa using h)
theorem norm_eq {l s : List Rg} (hp : s.Perm (clipL l)) (hs : SortedLo s) : mergeL s = norm l := by
 obtain ⟨h1, h2⟩ := norm_of hp hs
 obtain ⟨h3, h4⟩ := norm_spec l
 exact unique h1 h3 fun x => by rw [h2, h4]
theorem norm_nrm {l : List Rg} (h : Nrm l) : norm l = l := unique (norm_spec l).1 h (norm_spec l).2
end Go.Vu.Rm
