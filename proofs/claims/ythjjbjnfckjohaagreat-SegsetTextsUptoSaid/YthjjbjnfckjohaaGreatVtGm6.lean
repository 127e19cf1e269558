/- What the sweep's list holds. -/
import Derived.Test.YthjjbjnfckjohaaGreatVtGm4
import Derived.Test.YthjjbjnfckjohaaGreatVtGm5
set_option linter.unusedVariables false
set_option maxRecDepth 100000
namespace Go.Vt.Sg
open Go Go.Vt Go.Vt.Rm Go.Sort Go.Vt.Srt

/- - a range holds the number -/
def has (l : List Rg) (x : Int) : Bool := l.any fun r => decide (r.1 ≤ x) && decide (x ≤ r.2)
theorem has_iff {l : List Rg} {x : Int} : has l x = true ↔ ∃ r ∈ l, Rm.inR r x := by
  simp [has, Rm.inR]
theorem has_mem {l : List Rg} {x : Int} (h0 : 0 ≤ x) (h1 : x ≤ 1114111) : has l x = true ↔ Mem l x := by
  rw [has_iff]; exact ⟨fun h => ⟨h0, h1, h⟩, fun h => h.2.2⟩

theorem dropL_nrm {lo : Int} : ∀ {l : List Rg} {b : Int}, NrmF b l → NrmF b (dropL lo l)
  | [], _, _ => trivial
  | r :: l, b, h => by
    simp only [dropL]
    split
    · exact dropL_nrm (h.2.2.2.mono (by have := h.1; have := h.2.1; omega))
    · exact h
theorem dropL_sub {lo : Int} : ∀ {l : List Rg} {r : Rg}, r ∈ dropL lo l → r ∈ l
  | [], _, h => h
  | q :: l, r, h => by
    simp only [dropL] at h
    split at h
    · exact List.mem_cons_of_mem _ (dropL_sub h)
    · exact h
theorem dropL_has {lo : Int} : ∀ (l : List Rg) {x : Int}, lo ≤ x → has (dropL lo l) x = has l x
  | [], _, _ => rfl
  | q :: l, x, h => by
    simp only [dropL]
    split
    · rename_i hq
      rw [dropL_has l h]
      have : ¬ x ≤ q.2 := by omega
      simp [has, this]
    · rfl

/- - the first range tells, where no edge lies between -/
theorem fst_has {lo hi x b : Int} {l : List Rg} (hn : NrmF b l) (h1 : lo ≤ x) (h2 : x < hi) (he : ∀ r ∈ l, (r.1 ≤ lo ∨ hi ≤ r.1) ∧ (r.2 + 1 ≤ lo ∨ hi ≤ r.2 + 1)) :
    fst? lo (dropL lo l) = has l x := by
  rw [← dropL_has l h1]
  have hd := dropL_nrm (lo := lo) hn
  cases hc : dropL lo l with
  | nil => rfl
  | cons r t =>
    have hlo : ¬ r.2 < lo := by
      clear hd he hn
      induction l with
      | nil => cases hc
      | cons q l ih =>
        simp only [dropL] at hc
        split at hc
        · exact ih hc
        · cases hc; assumption
    rw [hc] at hd
    have hr := he r (dropL_sub (by rw [hc]; simp))
    rw [Bool.eq_iff_iff, has_iff]
    simp only [fst?, decide_eq_true_eq]
    constructor
    · intro h
      exact ⟨r, by simp, by show r.1 ≤ x; omega, by show x ≤ r.2; omega⟩
    · rintro ⟨q, hq, h3, h4⟩
      have hq' := he q (dropL_sub (by rw [hc]; exact hq))
      have : r.1 ≤ q.1 := by
        rcases List.mem_cons.1 hq with rfl | hq
        · exact Int.le_refl _
        · have := NrmF.ge hd.2.2.2 q hq
          have := hd.2.1
          omega
      omega

def lastOf : Int → List Int → Int
  | x, [] => x
  | _, y :: l => lastOf y l
theorem lastOf_ge : ∀ (l : List Int) (x : Int), (x :: l).Pairwise (· < ·) → x ≤ lastOf x l
  | [], x, _ => Int.le_refl _
  | y :: l, x, h => by
    have h1 := (List.pairwise_cons.1 h).1 y (by simp)
    have h2 := lastOf_ge l y (List.pairwise_cons.1 h).2
    simp only [lastOf]; omega

theorem sweep_mem {f : Bool → Bool → Bool} : ∀ (E : List Int) (lo : Int) (a b : List Rg) (u v x : Int), NrmF u a → NrmF v b → (lo :: E).Pairwise (· < ·) →
    (∀ r ∈ a, (r.1 ≤ lo ∨ r.1 ∈ E) ∧ (r.2 + 1 ≤ lo ∨ r.2 + 1 ∈ E)) → (∀ r ∈ b, (r.1 ≤ lo ∨ r.1 ∈ E) ∧ (r.2 + 1 ≤ lo ∨ r.2 + 1 ∈ E)) →
    ((∃ r ∈ sweepL f a b (lo :: E), Rm.inR r x) ↔ (lo ≤ x ∧ x < lastOf lo E ∧ f (has a x) (has b x) = true))
  | [], lo, a, b, u, v, x, ha, hb, hp, ea, eb => by
    simp only [sweepL, lastOf]
    constructor
    · rintro ⟨r, hr, _⟩; cases hr
    · intro h; omega
  | hi :: E, lo, a, b, u, v, x, ha, hb, hp, ea, eb => by
    obtain ⟨hp1, hp2⟩ := List.pairwise_cons.1 hp
    have hlh := hp1 hi (by simp)
    have hmin : ∀ y ∈ hi :: E, hi ≤ y := by
      intro y hy
      rcases List.mem_cons.1 hy with rfl | hy
      · exact Int.le_refl _
      · exact Int.le_of_lt ((List.pairwise_cons.1 hp2).1 y hy)
    have hlast := lastOf_ge E hi hp2
    have nx : ∀ {l : List Rg}, (∀ r ∈ l, (r.1 ≤ lo ∨ r.1 ∈ hi :: E) ∧ (r.2 + 1 ≤ lo ∨ r.2 + 1 ∈ hi :: E)) → ∀ r ∈ dropL lo l, (r.1 ≤ hi ∨ r.1 ∈ E) ∧ (r.2 + 1 ≤ hi ∨ r.2 + 1 ∈ E) := by
      intro l h r hr
      obtain ⟨h1, h2⟩ := h r (dropL_sub hr)
      constructor
      · rcases h1 with h1 | h1
        · left; omega
        · rcases List.mem_cons.1 h1 with h1 | h1
          · left; omega
          · exact .inr h1
      · rcases h2 with h2 | h2
        · left; omega
        · rcases List.mem_cons.1 h2 with h2 | h2
          · left; omega
          · exact .inr h2
    have gap : ∀ {l : List Rg}, (∀ r ∈ l, (r.1 ≤ lo ∨ r.1 ∈ hi :: E) ∧ (r.2 + 1 ≤ lo ∨ r.2 + 1 ∈ hi :: E)) → ∀ r ∈ l, (r.1 ≤ lo ∨ hi ≤ r.1) ∧ (r.2 + 1 ≤ lo ∨ hi ≤ r.2 + 1) := by
      intro l h r hr
      obtain ⟨h1, h2⟩ := h r hr
      exact ⟨h1.imp id (hmin _), h2.imp id (hmin _)⟩
    have ih := sweep_mem (f := f) E hi (dropL lo a) (dropL lo b) u v x (dropL_nrm ha) (dropL_nrm hb) hp2 (nx ea) (nx eb)
    have hS : sweepL f a b (lo :: hi :: E) = (if f (fst? lo (dropL lo a)) (fst? lo (dropL lo b)) then [(lo, hi - 1)] else []) ++ sweepL f (dropL lo a) (dropL lo b) (hi :: E) := rfl
    rw [hS]
    simp only [List.mem_append, or_and_right, exists_or]
    rw [ih]
    simp only [lastOf]
    by_cases hx : lo ≤ x
    · rw [dropL_has a hx, dropL_has b hx]
      by_cases hx2 : x < hi
      · rw [fst_has ha hx hx2 (gap ea), fst_has hb hx hx2 (gap eb)]
        cases hf : f (has a x) (has b x) with
        | true =>
          simp only [if_true, List.mem_singleton, exists_eq_left, Rm.inR]
          constructor
          · intro _; exact ⟨hx, by omega, trivial⟩
          · intro _; left; exact ⟨hx, by omega⟩
        | false => simp
      · constructor
        · rintro (⟨r, hr, h3⟩ | h)
          · exfalso
            split at hr
            · simp only [List.mem_singleton] at hr
              subst hr
              have := h3.2
              simp only at this
              omega
            · cases hr
          · exact ⟨hx, h.2⟩
        · rintro ⟨_, h3, h4⟩
          exact .inr ⟨by omega, h3, h4⟩
    · constructor
      · rintro (⟨r, hr, h3⟩ | h)
        · exfalso
          split at hr
          · simp only [List.mem_singleton] at hr
            subst hr
            exact hx h3.1
          · cases hr
        · omega
      · rintro ⟨h, _⟩; exact absurd h hx

/- the four -/
def IsOp (f : Bool → Bool → Bool) (a b o : List Rg) : Prop := Nrm o ∧ ∀ x, Mem o x ↔ (0 ≤ x ∧ x ≤ 1114111 ∧ f (has a x) (has b x) = true)

theorem has_norm {a : List Rg} {x : Int} (h0 : 0 ≤ x) (h1 : x ≤ 1114111) : has (norm a) x = has a x := by
  rw [Bool.eq_iff_iff, has_mem h0 h1, has_mem h0 h1]; exact (norm_spec a).2 x

theorem last_mid : ∀ (l : List Int) (x y : Int), lastOf x (l ++ [y]) = y
  | [], x, y => rfl
  | z :: l, x, y => by simp only [List.cons_append, lastOf]; exact last_mid l z y

theorem ends_of {s E : List Int} (hE : E.Pairwise (· < ·)) (hm : ∀ y, y ∈ E ↔ y ∈ s) (h0 : (0 : Int) ∈ s) (h1 : (1114112 : Int) ∈ s) (hb : ∀ y ∈ s, 0 ≤ y ∧ y ≤ 1114112) :
    ∃ M, E = 0 :: (M ++ [1114112]) := by
  cases E with
  | nil => cases (hm 0).2 h0
  | cons e E =>
    have he : e = 0 := by
      have := hb e ((hm e).1 (by simp))
      rcases List.mem_cons.1 ((hm 0).2 h0) with h | h
      · exact h.symm
      · have := (List.pairwise_cons.1 hE).1 0 h; omega
    subst he
    rcases List.eq_nil_or_concat E with rfl | ⟨M, z, rfl⟩
    · have := (hm 1114112).2 h1
      simp at this
    · refine ⟨M, ?_⟩
      have hz : z = 1114112 := by
        have h2 := hb z ((hm z).1 (by simp))
        have h3 := (hm 1114112).2 h1
        simp only [List.mem_cons, List.mem_append, List.not_mem_nil, or_false, List.concat_eq_append] at h3
        rcases h3 with h3 | h3 | h3
        · omega
        · have h4 := (List.pairwise_cons.1 hE).2
          rw [List.concat_eq_append] at h4
          have := (List.pairwise_append.1 h4).2.2 _ h3 z (by simp)
          omega
        · exact h3.symm
      rw [hz, List.concat_eq_append]

theorem runG_is {kf : Bool → Bool → Option (Unit × (Bool × Unit))} {f : Bool → Bool → Bool} (hk : ∀ x y, kf x y = some ((), (f x y, ()))) (a b : List Rg) (ha : a.length ≤ 10000000) (hb : b.length ≤ 10000000) :
    ∃ o, runG kf a b = some ((), (o, ())) ∧ IsOp f a b o := by
  have e1 := rNorm_eq' a (by omega)
  have e2 := rNorm_eq' b (by omega)
  have la := nrm_len (norm_spec a).1
  have lb := nrm_len (norm_spec b).1
  have e3 := concat_is (norm a) (norm b) (by omega) (by omega)
  have hv : ∀ r ∈ norm a ++ norm b, 0 ≤ r.1 ∧ r.1 ≤ r.2 ∧ r.2 ≤ 1114111 := by
    intro r hr
    rcases List.mem_append.1 hr with hr | hr
    · exact NrmF.ge (norm_spec a).1 r hr
    · exact NrmF.ge (norm_spec b).1 r hr
  have e4 := edges_loop (kf := kf) (norm a) (norm b) (norm a ++ norm b) [] [0, 1114112] fuelN (by simp; omega) (by simp; omega) (fun r hr => by have := hv r hr; omega) (by have := fuelN_le; simp; omega)
  simp only [List.nil_append, List.length_nil] at e4
  generalize hS : [(0 : Int), 1114112] ++ edgesOf (norm a ++ norm b) = S at e4
  have hSl : S.length ≤ 10000000 := by rw [← hS]; simp [edgesOf_length]; omega
  obtain ⟨s, e5, hp, hs⟩ := sortI_spec S (by omega)
  have e6 := compactI_is s (by rw [hp.length_eq]; omega)
  obtain ⟨hE, hm⟩ := cpt_spec hs
  have hEl := cpt_length s
  have hSm : ∀ y, y ∈ S ↔ y = 0 ∨ y = 1114112 ∨ ∃ r ∈ norm a ++ norm b, y = r.1 ∨ y = r.2 + 1 := by
    intro y
    rw [← hS]
    simp only [List.mem_append, List.mem_cons, List.not_mem_nil, or_false, mem_edgesOf, or_assoc]
  have hm' : ∀ y, y ∈ cpt s ↔ y ∈ S := fun y => (hm y).trans hp.mem_iff
  have hSb : ∀ y ∈ S, 0 ≤ y ∧ y ≤ 1114112 := by
    intro y hy
    rcases (hSm y).1 hy with rfl | rfl | ⟨r, hr, h | h⟩
    · omega
    · omega
    · have := hv r hr; omega
    · have := hv r hr; omega
  obtain ⟨M, hM⟩ := ends_of hE hm' ((hSm 0).2 (.inl rfl)) ((hSm _).2 (.inr (.inl rfl))) hSb
  generalize hEE : cpt s = E at *
  have hEl' : E.length ≤ 10000000 := by rw [hp.length_eq] at hEl; omega
  have hE0 : 0 < E.length := by rw [hM]; simp
  have e7 := sweep_loop hk E (by omega) (fun x hx => hSb x ((hm' x).1 hx)) (0 :: M) [] 1114112 (norm a) (norm b) [] fuelN (by rw [hM]; simp) (by
    have : E.length = M.length + 2 := by rw [hM]; simp
    simp; omega) (by omega) (by omega) (by
    have : E.length = M.length + 2 := by rw [hM]; simp
    have := fuelN_le; simp; omega)
  simp only [List.nil_append, List.length_nil] at e7
  have hME : 0 :: M ++ [1114112] = E := by rw [hM]; rfl
  rw [hME] at e7
  generalize hW : sweepL f (norm a) (norm b) E = W at e7
  have hWl : W.length ≤ 10000000 := by
    have : ∀ (E : List Int) (a b : List Rg), (sweepL f a b E).length ≤ E.length := by
      intro E
      induction E with
      | nil => intro a b; simp [sweepL]
      | cons lo E ih =>
        intro a b
        cases E with
        | nil => simp [sweepL]
        | cons hi E =>
          simp only [sweepL, List.length_append]
          have := ih (dropL lo a) (dropL lo b)
          simp only [List.length_cons] at this ⊢
          split <;> simp <;> omega
    have := this E (norm a) (norm b)
    rw [hW] at this
    omega
  have e8 := rNorm_eq' W (by omega)
  refine ⟨norm W, ?_, (norm_spec W).1, fun x => ?_⟩
  · have w1 : IntKind.i64.wrap ((E.length : Int) - (1 : Int)) = ((E.length - 1 : Nat) : Int) := w_pred' hE0 (by omega)
    have i1 : inB (0 : Int) ((E.length - 1 : Nat) : Int) E.length = true := by
      simp only [inB, Bool.and_eq_true, decide_eq_true_eq]; omega
    have v1 : (((E.length - 1 : Nat) : Int) - (0 : Int)).toNat = E.length - 1 := by omega
    have e4' : iterN (fun x => runG_s6 kf x.1 x.2.1 x.2.2.2.1 x.2.2.2.2.1 x.2.2.2.2.2.1 x.2.2.2.2.2.2.1) fuelN (norm a, (norm b, ((), ([(0 : Int), (1114112 : Int)], (norm a ++ norm b, (((norm a ++ norm b).length : Int), ((0 : Int), ()))))))) = some (norm a, (norm b, ((), (S, ())))) := e4
    have e7' : iterN (fun x => runG_s16 kf x.1 x.2.1 x.2.2.2.1 x.2.2.2.2.1 x.2.2.2.2.2.1 x.2.2.2.2.2.2.1 x.2.2.2.2.2.2.2.1) fuelN (norm a, (norm b, ((), (E, (([] : List (Int × Int)), ((((0 : Int).toNat, E.length - 1) : Nat × Nat), (((E.length - 1 : Nat) : Int), ((0 : Int), ())))))))) = some (W, ()) := e7
    simp only [runG, e1, e2, Option.bind_some, e3, e4', e5, e6, w1, i1, cond_true, v1, e7', e8]
  · rw [(norm_spec W).2]
    have ed : ∀ l : List Rg, (∀ r ∈ l, r ∈ norm a ++ norm b) → ∀ r ∈ l, (r.1 ≤ 0 ∨ r.1 ∈ M ++ [1114112]) ∧ (r.2 + 1 ≤ 0 ∨ r.2 + 1 ∈ M ++ [1114112]) := by
      intro l hl r hr
      have h1 := (hm' r.1).2 ((hSm r.1).2 (.inr (.inr ⟨r, hl r hr, .inl rfl⟩)))
      have h2 := (hm' (r.2 + 1)).2 ((hSm (r.2 + 1)).2 (.inr (.inr ⟨r, hl r hr, .inr rfl⟩)))
      rw [hM] at h1 h2
      refine ⟨(List.mem_cons.1 h1).imp (fun h => by omega) id, (List.mem_cons.1 h2).imp (fun h => by omega) id⟩
    have hsw := sweep_mem (f := f) (M ++ [1114112]) 0 (norm a) (norm b) 0 0 x (norm_spec a).1 (norm_spec b).1 (by rw [← hM]; exact hE)
      (ed _ fun r hr => List.mem_append_left _ hr) (ed _ fun r hr => List.mem_append_right _ hr)
    rw [← hM, hW, last_mid] at hsw
    constructor
    · rintro ⟨h0, h1, h2⟩
      have := hsw.1 h2
      rw [has_norm h0 h1, has_norm h0 h1] at this
      exact ⟨h0, h1, this.2.2⟩
    · rintro ⟨h0, h1, h2⟩
      refine ⟨h0, h1, hsw.2 ⟨h0, by omega, ?_⟩⟩
      rw [has_norm h0 h1, has_norm h0 h1]; exact h2

/- - the one normal list of an operation -/
noncomputable def opS (f : Bool → Bool → Bool) (a b : List Rg) : List Rg := open Classical in if h : ∃ o, IsOp f a b o then Classical.choose h else []
theorem opS_eq {f : Bool → Bool → Bool} {a b o : List Rg} (h : IsOp f a b o) : opS f a b = o := by
  have hex : ∃ o, IsOp f a b o := ⟨o, h⟩
  have e : opS f a b = Classical.choose hex := by unfold opS; rw [dif_pos hex]
  have hc := Classical.choose_spec hex
  rw [e]
  exact unique hc.1 h.1 fun x => by rw [hc.2, h.2]
theorem runG_eq {kf : Bool → Bool → Option (Unit × (Bool × Unit))} {f : Bool → Bool → Bool} (hk : ∀ x y, kf x y = some ((), (f x y, ()))) (a b : List Rg) (ha : a.length ≤ 10000000) (hb : b.length ≤ 10000000) :
    runG kf a b = some ((), (opS f a b, ())) ∧ IsOp f a b (opS f a b) := by
  obtain ⟨o, h1, h2⟩ := runG_is hk a b ha hb
  rw [opS_eq h2]
  exact ⟨h1, h2⟩

def uB (x y : Bool) : Bool := x || y
def mB (x y : Bool) : Bool := x && y
def dB (x y : Bool) : Bool := x && !y
theorem uF_is (x y : Bool) : uF x y = some ((), (uB x y, ())) := by cases x <;> rfl
theorem mF_is (x y : Bool) : mF x y = some ((), (mB x y, ())) := by cases x <;> rfl
theorem dF_is (x y : Bool) : dF x y = some ((), (dB x y, ())) := by cases x <;> rfl

theorem rUnion_is (a b : List Rg) (ha : a.length ≤ 10000000) (hb : b.length ≤ 10000000) : rUnion a b = some ((), (opS uB a b, ())) ∧ IsOp uB a b (opS uB a b) := by
  obtain ⟨h1, h2⟩ := runG_eq uF_is a b ha hb
  exact ⟨by simp only [rUnion, runU_is, h1, Option.bind_some], h2⟩
theorem rMeet_is (a b : List Rg) (ha : a.length ≤ 10000000) (hb : b.length ≤ 10000000) : rMeet a b = some ((), (opS mB a b, ())) ∧ IsOp mB a b (opS mB a b) := by
  obtain ⟨h1, h2⟩ := runG_eq mF_is a b ha hb
  exact ⟨by simp only [rMeet, runM_is, h1, Option.bind_some], h2⟩
theorem rMinus_is (a b : List Rg) (ha : a.length ≤ 10000000) (hb : b.length ≤ 10000000) : rMinus a b = some ((), (opS dB a b, ())) ∧ IsOp dB a b (opS dB a b) := by
  obtain ⟨h1, h2⟩ := runG_eq dF_is a b ha hb
  exact ⟨by simp only [rMinus, runD_is, h1, Option.bind_some], h2⟩
end Go.Vt.Sg
