/- Which lists may be programs: by the program and by the reference. -/
import Derived.Test.YtfmhkcidechgdaaGreatVtPm3
set_option linter.unusedVariables false
set_option maxRecDepth 100000
namespace Go.Vt.Pk
open Go Go.Vt Go.Vt.Rm Go.Sort Go.Vt.Srt
abbrev In := Int × (TSet × (Int × Int))
abbrev In.op (i : In) : Int := i.1
abbrev In.set (i : In) : TSet := i.2.1
abbrev In.x (i : In) : Int := i.2.2.1
abbrev In.y (i : In) : Int := i.2.2.2
noncomputable def okIn (n : Int) (i : In) : Bool :=
  if i.1 = 1 then decide (normS i.2.1 = i.2.1) && (decide (i.2.2.1 = 0) && decide (i.2.2.2 = 0))
  else if i.1 = 2 then decide (i.2.1 = noS) && ((decide (0 ≤ i.2.2.1) && decide (i.2.2.1 < n)) && (decide (0 ≤ i.2.2.2) && decide (i.2.2.2 < n)))
  else if i.1 = 3 then decide (i.2.1 = noS) && ((decide (0 ≤ i.2.2.1) && decide (i.2.2.1 < n)) && decide (i.2.2.2 = 0))
  else if i.1 = 4 ∨ i.1 = 5 ∨ i.1 = 6 then decide (i.2.1 = noS) && (decide (i.2.2.1 = 0) && decide (i.2.2.2 = 0))
  else false
theorem pMayIn_is (x n : Int) : pMayIn x n = some ((), (decide (0 ≤ x) && decide (x < n), ())) := by
  unfold pMayIn
  by_cases h : 0 ≤ x <;> simp [h]
theorem noS_len (s : TSet) : s = noS ↔ s.1.length = 0 ∧ s.2.1.length = 0 ∧ s.2.2.length = 0 := by
  obtain ⟨a, b, c⟩ := s
  simp [noS]
theorem pMay1_is (i : In) (n : Int) (h : OkS 20000000 i.2.1) : pMay1 i n = some ((), (okIn n i, ())) := by
  obtain ⟨op, s, x, y⟩ := i
  have hm := sMay_is s h
  obtain ⟨a1, a2, a3, _⟩ := h
  simp only at a1 a2 a3
  have v2 : ((IntKind.i64.wrap ((IntKind.i64.wrap ((s.1.length : Int) + (s.2.1.length : Int))) + (s.2.2.length : Int))) == (0 : Int)) = decide (s = noS) := by
    rw [wrap64 (x := (s.1.length : Int) + (s.2.1.length : Int)) (by omega) (by omega), wrap64 (by omega) (by omega)]
    rw [Bool.eq_iff_iff]
    simp only [beq_iff_eq, decide_eq_true_eq, noS_len]
    omega
  have b0 : ∀ z k : Int, (z == k) = decide (z = k) := fun z k => by rw [Bool.eq_iff_iff]; simp
  simp only [pMay1, v2, hm, pMayIn_is, b0, Option.bind_some]
  unfold okIn
  simp only
  by_cases h1 : op = 1
  · subst h1
    cases decide (normS s = s) <;> cases decide (x = 0) <;> simp
  by_cases h2 : op = 2
  · subst h2
    cases decide (s = noS) <;> cases decide (0 ≤ x) <;> cases decide (x < n) <;> simp
  by_cases h3 : op = 3
  · subst h3
    cases decide (s = noS) <;> cases decide (0 ≤ x) <;> cases decide (x < n) <;> simp
  by_cases h4 : op = 4
  · subst h4
    by_cases hs' : s = noS <;> by_cases hx : x = 0 <;> simp [hs', hx]
  by_cases h5 : op = 5
  · subst h5
    by_cases hs' : s = noS <;> by_cases hx : x = 0 <;> simp [hs', hx]
  by_cases h6 : op = 6
  · subst h6
    by_cases hs' : s = noS <;> by_cases hx : x = 0 <;> simp [hs', hx]
  simp [h1, h2, h3, h4, h5, h6]
theorem pIdx_loop (q : List In) (hq : ∀ i ∈ q, OkS 20000000 i.2.1) : ∀ (rest pre : List In) (n : Nat), q = pre ++ rest → q.length ≤ 100000000 → rest.length < n →
    ∃ y, iterN (fun x => indexFuncP_s2 x.1 x.2.1 x.2.2.1 x.2.2.2.1) n (q, ((q, ()), ((q.length : Int), (((pre.length : Nat) : Int), ())))) = some y ∧
      ((rest.all (okIn (q.length : Int)) = false ∧ ∃ i : Nat, y = .inl ((i : Int), ())) ∨ (rest.all (okIn (q.length : Int)) = true ∧ y = .inr ())) := by
  intro rest
  induction rest with
  | nil =>
    intro pre n hp h1 hn
    obtain ⟨n, rfl⟩ := succ_of hn
    subst hp
    refine ⟨.inr (), iterN_inr ?_, .inr ⟨rfl, rfl⟩⟩
    simp [indexFuncP_s2]
  | cons r rest ih =>
    intro pre n hp h1 hn
    simp only [List.length_cons] at hn
    obtain ⟨n, rfl⟩ := succ_of hn
    have hlt : ((pre.length : Nat) : Int) < (q.length : Int) := by rw [hp]; exact lt_mid
    have hk : lk q ((pre.length : Nat) : Int) = some r := by rw [hp]; exact lk_mid
    have hpl : pre.length ≤ q.length := by rw [hp]; simp
    have ew : IntKind.i64.wrap (((pre.length : Nat) : Int) + 1) = (((pre ++ [r]).length : Nat) : Int) := w_mid (by omega)
    have hm := pMay1_is r (q.length : Int) (hq r (by rw [hp]; simp))
    cases hc : okIn (q.length : Int) r with
    | true =>
      obtain ⟨y, hs, hy⟩ := ih (pre ++ [r]) n (by rw [hp]; simp) h1 (by omega)
      refine ⟨y, (iterN_inl ?_).trans hs, by simpa [hc] using hy⟩
      simp only [indexFuncP_s2, hlt, decide_true, cond_true, hk, Option.bind_some, pMayF, hm, hc, Bool.not_true, cond_false, ew]
    | false =>
      refine ⟨_, iterN_inr ?_, .inl ⟨by simp [hc], pre.length, rfl⟩⟩
      simp only [indexFuncP_s2, hlt, decide_true, cond_true, hk, Option.bind_some, pMayF, hm, hc, Bool.not_false]
noncomputable def mayP (p : List In) : Bool := match p.getLast? with
  | none => false
  | some z => decide (p.length ≤ 4096) && (decide (z.1 = 6) && p.all (okIn (p.length : Int)))
theorem last_lk {α : Type} {p : List α} {z : α} (h : p.getLast? = some z) (hl : p.length ≤ 100000000) : lk p (IntKind.i64.wrap ((p.length : Int) - 1)) = some z := by
  rcases List.eq_nil_or_concat p with rfl | ⟨q, y, rfl⟩
  · cases h
  rw [List.concat_eq_append] at h hl ⊢
  simp at h
  subst h
  have : IntKind.i64.wrap (((q ++ [y]).length : Int) - 1) = ((q.length : Nat) : Int) := by simp at hl; rw [wrap64] <;> simp <;> omega
  rw [this]
  exact lk_mid
theorem pMay_is (p : List In) (hp : p.length ≤ 10000000) (hs : ∀ i ∈ p, OkS 20000000 i.2.1) : pMay p = some ((), (mayP p, ())) := by
  unfold mayP
  cases hl : p.getLast? with
  | none =>
    have : p = [] := by simpa using hl
    subst this
    rfl
  | some z =>
    have hne : p ≠ [] := fun e => by subst e; cases hl
    have h0 : ¬ ((p.length : Int) < (1 : Int)) := by have := List.length_pos_iff.2 hne; omega
    have hk := last_lk hl (by omega)
    simp only [pMay, h0, decide_false, cond_false]
    by_cases h1 : p.length ≤ 4096
    · have h1' : ¬ ((p.length : Int) > (4096 : Int)) := by omega
      simp only [h1', decide_false, cond_false, hk, Option.bind_some, h1, decide_true, Bool.true_and]
      by_cases h6 : z.1 = 6
      · have b : (z.1 != (6 : Int)) = false := by simp [h6]
        obtain ⟨y, g1, g2⟩ := pIdx_loop p hs p [] fuN (by simp) (by omega) (by have := fuN_le; omega)
        have g1' : iterN (fun x => indexFuncP_s2 x.1 x.2.1 x.2.2.1 x.2.2.2.1) fuN (p, ((p, ()), ((p.length : Int), ((0 : Int), ())))) = some y := g1
        rw [show decide (z.1 = 6) = true by simpa using h6]
        simp only [b, cond_false, Option.bind_some, containsFuncP, indexFuncP, g1', Bool.true_and]
        rcases g2 with ⟨g2, i, rfl⟩ | ⟨g2, rfl⟩
        · have : ((i : Int) ≥ 0) := by omega
          simp only [g2, this, decide_true, Option.bind_some, Bool.not_true]
        · simp only [g2, Option.bind_some]
          rfl
      · have b : (z.1 != (6 : Int)) = true := by simpa using h6
        simp only [b, cond_true, Option.bind_some, h6, decide_false, Bool.false_and]
    · have h1' : ((p.length : Int) > (4096 : Int)) := by omega
      simp only [h1', decide_true, cond_true, Option.bind_some, h1, decide_false, Bool.false_and]
theorem bd_n {z k : Int} : (z != k) = !decide (z = k) := by rw [Bool.eq_iff_iff]; simp
theorem may8_loop (p : List In) (hs : ∀ i ∈ p, OkS 20000000 i.2.1) : ∀ (rest pre : List In) (n : Nat), p = pre ++ rest → p.length ≤ 100000000 → rest.length < n →
    iterN (fun x => may8_s5 x.1 x.2.1 x.2.2.1) n (p, ((p.length : Int), (((pre.length : Nat) : Int), ()))) = some (if rest.all (okIn (p.length : Int)) = true then .inr () else .inl (false, ())) := by
  intro rest
  induction rest with
  | nil =>
    intro pre n hp h1 hn
    obtain ⟨n, rfl⟩ := succ_of hn
    subst hp
    refine iterN_inr ?_
    simp [may8_s5]
  | cons r rest ih =>
    intro pre n hp h1 hn
    simp only [List.length_cons] at hn
    obtain ⟨n, rfl⟩ := succ_of hn
    have hlt : ((pre.length : Nat) : Int) < (p.length : Int) := by rw [hp]; exact lt_mid
    have hk : lk p ((pre.length : Nat) : Int) = some r := by rw [hp]; exact lk_mid
    have hpl : pre.length ≤ p.length := by rw [hp]; simp
    have ew : IntKind.i64.wrap (((pre.length : Nat) : Int) + 1) = (((pre ++ [r]).length : Nat) : Int) := w_mid (by omega)
    obtain ⟨a1, a2, a3, a4⟩ := hs r (by rw [hp]; simp)
    have hno : same6 r.2.1 (([] : List (Int × Int)), (([] : List (Int × Int)), ([] : List (List UInt8)))) = some ((), (decide (r.2.1 = noS), ())) := same6_is r.2.1 noS a1 a2 (by omega)
    have hnn := norm6_is r.2.1 a1 a2 a3 a4
    have n1 := norm_len r.2.1.1; have n2 := norm_len r.2.1.2.1; have n3 := oddL_length r.2.1.2.2 (by omega)
    have hsm := same6_is (normS r.2.1) r.2.1 (by simp only [normS]; omega) (by simp only [normS]; omega) (by simp only [normS]; omega)
    have hih := ih (pre ++ [r]) n (by rw [hp]; simp) h1 (by omega)
    have key : may8_s5 p (p.length : Int) ((pre.length : Nat) : Int) = some (if okIn (p.length : Int) r = true then .inl (p, ((p.length : Int), ((((pre ++ [r]).length : Nat) : Int), ()))) else .inr (.inl (false, ()))) := by
      obtain ⟨op, s, x, y⟩ := r
      simp only at hno hnn hsm
      have b0 : ∀ z k : Int, (z == k) = decide (z = k) := fun z k => by rw [Bool.eq_iff_iff]; simp
      simp only [may8_s5, hlt, decide_true, cond_true, Option.bind_some, hk, hno, hnn, hsm, b0, bd_n]
      unfold okIn
      simp only
      have e1 : ∀ a b : Int, decide (a < b) = !decide (b ≤ a) := fun a b => by rw [Bool.eq_iff_iff]; simp
      have e2 : decide (x ≥ (p.length : Int)) = !decide (x < (p.length : Int)) := by rw [Bool.eq_iff_iff]; simp
      have e3 : decide (y ≥ (p.length : Int)) = !decide (y < (p.length : Int)) := by rw [Bool.eq_iff_iff]; simp
      have e4 : decide (x < (0 : Int)) = !decide (0 ≤ x) := e1 _ _
      have e5 : decide (y < (0 : Int)) = !decide (0 ≤ y) := e1 _ _
      rw [e2, e3, e4, e5]
      have ew' : IntKind.i64.wrap (((pre.length : Nat) : Int) + 1) = ((pre.length : Nat) : Int) + 1 := by rw [wrap64] <;> omega
      by_cases h1 : op = 1
      · subst h1
        cases decide (normS s = s) <;> cases decide (x = 0) <;> cases decide (y = 0) <;> simp [ew']
      by_cases h2 : op = 2
      · subst h2
        cases decide (s = noS) <;> cases decide (0 ≤ x) <;> cases decide (x < (p.length : Int)) <;> cases decide (0 ≤ y) <;> cases decide (y < (p.length : Int)) <;> simp [ew']
      by_cases h3 : op = 3
      · subst h3
        cases decide (s = noS) <;> cases decide (0 ≤ x) <;> cases decide (x < (p.length : Int)) <;> cases decide (y = 0) <;> simp [ew']
      by_cases h4 : op = 4
      · subst h4
        by_cases hs' : s = noS <;> by_cases hx : x = 0 <;> by_cases hy : y = 0 <;> simp [hs', hx, hy, ew']
      by_cases h5 : op = 5
      · subst h5
        by_cases hs' : s = noS <;> by_cases hx : x = 0 <;> by_cases hy : y = 0 <;> simp [hs', hx, hy, ew']
      by_cases h6 : op = 6
      · subst h6
        by_cases hs' : s = noS <;> by_cases hx : x = 0 <;> by_cases hy : y = 0 <;> simp [hs', hx, hy, ew']
      simp [h1, h2, h3, h4, h5, h6]
    cases hc : okIn (p.length : Int) r with
    | true =>
      rw [hc, if_pos rfl] at key
      rw [show (r :: rest).all (okIn (p.length : Int)) = rest.all (okIn (p.length : Int)) by simp [hc]]
      exact (iterN_inl key).trans hih
    | false =>
      rw [hc, if_neg (by simp)] at key
      rw [show (r :: rest).all (okIn (p.length : Int)) = false by simp [hc], if_neg (by simp)]
      exact iterN_inr key
theorem may8_is (p : List In) (hp : p.length ≤ 10000000) (hs : ∀ i ∈ p, OkS 20000000 i.2.1) : may8 p = some ((), (mayP p, ())) := by
  unfold mayP
  cases hl : p.getLast? with
  | none =>
    have : p = [] := by simpa using hl
    subst this
    rfl
  | some z =>
    have hne : p ≠ [] := fun e => by subst e; cases hl
    have h0 : ((p.length : Int) == (0 : Int)) = false := by have := List.length_pos_iff.2 hne; simp; omega
    have hk := last_lk hl (by omega)
    simp only [may8, h0, cond_false]
    by_cases h1 : p.length ≤ 4096
    · have h1' : ¬ ((p.length : Int) > (4096 : Int)) := by omega
      simp only [h1', decide_false, cond_false, hk, Option.bind_some, h1, decide_true, Bool.true_and]
      by_cases h6 : z.1 = 6
      · have b : (z.1 != (6 : Int)) = false := by simp [h6]
        have g1 := may8_loop p hs p [] fuN (by simp) (by omega) (by have := fuN_le; omega)
        have g1' : iterN (fun x => may8_s5 x.1 x.2.1 x.2.2.1) fuN (p, ((p.length : Int), ((0 : Int), ()))) = some (if p.all (okIn (p.length : Int)) = true then .inr () else .inl (false, ())) := g1
        rw [show decide (z.1 = 6) = true by simpa using h6]
        simp only [b, cond_false, Option.bind_some, g1', Bool.true_and]
        cases p.all (okIn (p.length : Int)) <;> rfl
      · have b : (z.1 != (6 : Int)) = true := by simpa using h6
        simp only [b, cond_true, Option.bind_some, h6, decide_false, Bool.false_and]
    · have h1' : ((p.length : Int) > (4096 : Int)) := by omega
      simp only [h1', decide_true, cond_true, Option.bind_some, h1, decide_false, Bool.false_and]
end Go.Vt.Pk
