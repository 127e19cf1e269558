/- Membership, by the program and by the reference. -/
import Derived.Test.YthjjbjnfckjohaaGreatVtGm7
set_option linter.unusedVariables false
set_option maxRecDepth 100000
namespace Go.Vt.Sg
open Go Go.Vt Go.Vt.Rm Go.Sort Go.Vt.Srt

def hv (l : List Rg) (x : Int) : Bool := decide (0 ≤ x) && (decide (x ≤ 1114111) && has l x)
theorem index_loop (x L : Int) : ∀ (rest pre : List Rg) (n : Nat), pre.length + rest.length ≤ 100000000 → L = ((pre ++ rest).length : Int) → rest.length < n →
    ∃ y, iterN (fun x => indexFunc_s2 x.1 x.2.1 x.2.2.1 x.2.2.2.1) n (pre ++ rest, ((x, ()), (L, (((pre.length : Nat) : Int), ())))) = some y ∧
      ((has rest x = true ∧ ∃ i : Nat, y = .inl ((i : Int), ())) ∨ (has rest x = false ∧ y = .inr ())) := by
  intro rest
  induction rest with
  | nil =>
    intro pre n h1 hL hn
    obtain ⟨n, rfl⟩ := succ_of hn
    subst hL
    refine ⟨_, iterN_inr ?_, .inr ⟨rfl, rfl⟩⟩
    simp [indexFunc_s2]
  | cons r rest ih =>
    intro pre n h1 hL hn
    simp only [List.length_cons] at h1 hn
    obtain ⟨n, rfl⟩ := succ_of hn
    have hlt : ((pre.length : Nat) : Int) < L := by rw [hL]; exact lt_mid
    have ew : IntKind.i64.wrap (((pre.length : Nat) : Int) + 1) = (((pre ++ [r]).length : Nat) : Int) := w_mid (by omega)
    obtain ⟨y, h2, h3⟩ := ih (pre ++ [r]) n (by simp; omega) (by rw [hL]; simp) (by omega)
    rw [← app_mid] at h2
    have hf : hasF r x = some ((), (decide (r.1 ≤ x) && decide (x ≤ r.2), ())) := by
      by_cases hc : r.1 ≤ x <;> simp [hasF, hc]
    have hh : has (r :: rest) x = ((decide (r.1 ≤ x) && decide (x ≤ r.2)) || has rest x) := rfl
    cases hc : (decide (r.1 ≤ x) && decide (x ≤ r.2)) with
    | true =>
      rw [hc] at hf hh
      refine ⟨_, iterN_inr (y := .inl (((pre.length : Nat) : Int), ())) ?_, .inl ⟨by rw [hh]; rfl, _, rfl⟩⟩
      simp only [indexFunc_s2, hlt, decide_true, cond_true, lk_mid, Option.bind_some, hf]
    | false =>
      rw [hc] at hf hh
      refine ⟨y, (iterN_inl ?_).trans h2, by rw [hh]; exact h3⟩
      simp only [indexFunc_s2, hlt, decide_true, cond_true, cond_false, lk_mid, Option.bind_some, hf, ew]
theorem rHas_is (l : List Rg) (x : Int) (h : l.length ≤ 50000000) : rHas l x = some ((), (hv l x, ())) := by
  obtain ⟨y, h1, h2⟩ := index_loop x (l.length : Int) l [] fuelN (by simp; omega) rfl (by have := fuelN_le; omega)
  have h1' : iterN (fun x => indexFunc_s2 x.1 x.2.1 x.2.2.1 x.2.2.2.1) fuelN (l, ((x, ()), ((l.length : Int), ((0 : Int), ())))) = some y := h1
  have hc : containsFunc l (x, ()) = some ((), (has l x, ())) := by
    rcases h2 with ⟨h2, i, rfl⟩ | ⟨h2, rfl⟩
    · have : (i : Int) ≥ 0 := by omega
      simp only [containsFunc, indexFunc, h1', Option.bind_some, h2, this, decide_true]
    · have : ¬ ((-1 : Int) ≥ 0) := by decide
      simp only [containsFunc, indexFunc, h1', Option.bind_some, h2, this, decide_false]
  unfold hv
  by_cases c1 : 0 ≤ x <;> by_cases c2 : x ≤ 1114111 <;> simp [rHas, c1, c2, hc]

theorem refHas_loop (x : Int) : ∀ (rest pre : List Rg) (n : Nat), pre.length + rest.length ≤ 100000000 → rest.length < n →
    iterN (fun x => refHas_s2 x.1 x.2.1 x.2.2.1) n (pre ++ rest, (x, (((pre.length : Nat) : Int), ()))) = some (if hv rest x = true then .inl (true, ()) else .inr ()) := by
  intro rest
  induction rest with
  | nil =>
    intro pre n h1 hn
    obtain ⟨n, rfl⟩ := succ_of hn
    refine iterN_inr ?_
    simp [refHas_s2, hv, has]
  | cons r rest ih =>
    intro pre n h1 hn
    simp only [List.length_cons] at h1 hn
    obtain ⟨n, rfl⟩ := succ_of hn
    have hlt : ((pre.length : Nat) : Int) < ((pre ++ r :: rest).length : Int) := lt_mid
    have ew : IntKind.i64.wrap (((pre.length : Nat) : Int) + 1) = (((pre ++ [r]).length : Nat) : Int) := w_mid (by omega)
    have hs := ih (pre ++ [r]) n (by simp; omega) (by omega)
    rw [← app_mid] at hs
    have hh : hv (r :: rest) x = ((decide (0 ≤ x) && (decide (x ≤ 1114111) && (decide (r.1 ≤ x) && decide (x ≤ r.2)))) || hv rest x) := by
      simp only [hv, show has (r :: rest) x = ((decide (r.1 ≤ x) && decide (x ≤ r.2)) || has rest x) from rfl]
      cases decide (0 ≤ x) <;> cases decide (x ≤ 1114111) <;> rfl
    by_cases hc : 0 ≤ x ∧ x ≤ 1114111 ∧ r.1 ≤ x ∧ x ≤ r.2
    · obtain ⟨c1, c2, c3, c4⟩ := hc
      have e : hv (r :: rest) x = true := by rw [hh]; simp [c1, c2, c3, c4]
      rw [e, if_pos rfl]
      refine iterN_inr ?_
      simp only [refHas_s2, hlt, decide_true, cond_true, lk_mid, Option.bind_some, ge_iff_le, c1, c2, c3, c4]
    · have e : hv (r :: rest) x = hv rest x := by
        rw [hh]
        have : (decide (0 ≤ x) && (decide (x ≤ 1114111) && (decide (r.1 ≤ x) && decide (x ≤ r.2)))) = false := by
          cases hb : (decide (0 ≤ x) && (decide (x ≤ 1114111) && (decide (r.1 ≤ x) && decide (x ≤ r.2)))) with
          | false => rfl
          | true => simp only [Bool.and_eq_true, decide_eq_true_eq] at hb; exact absurd hb hc
        rw [this]; rfl
      rw [e]
      refine (iterN_inl ?_).trans hs
      by_cases c1 : 0 ≤ x <;> by_cases c2 : x ≤ 1114111 <;> by_cases c3 : r.1 ≤ x <;> by_cases c4 : x ≤ r.2 <;>
        first
        | (simp only [refHas_s2, hlt, decide_true, decide_false, cond_true, cond_false, lk_mid, Option.bind_some, ge_iff_le, c1, c2, c3, c4, ew]; done)
        | exact absurd ⟨c1, c2, c3, c4⟩ hc
theorem refHas_is (l : List Rg) (x : Int) (h : l.length ≤ 50000000) : refHas l x = some ((), (hv l x, ())) := by
  have h1 := refHas_loop x l [] fuelN (by simp; omega) (by have := fuelN_le; omega)
  have h1' : iterN (fun x => refHas_s2 x.1 x.2.1 x.2.2.1) fuelN (l, (x, ((0 : Int), ()))) = some (if hv l x = true then .inl (true, ()) else .inr ()) := h1
  cases hc : hv l x <;> simp [refHas, h1', hc]


end Go.Vt.Sg
