/- The reference, plainly told. -/
import Derived.Test.YthjjbjnfckjohaaGreatVtGm6
set_option linter.unusedVariables false
set_option maxRecDepth 100000
namespace Go.Vt.Sg
open Go Go.Vt Go.Vt.Rm Go.Sort Go.Vt.Srt

/- Same -/
theorem refSame_loop : ∀ (rest rest' pre pre' : List Rg) (n : Nat), pre.length = pre'.length → rest.length = rest'.length → pre.length + rest.length ≤ 100000000 → rest.length < n →
    iterN (fun x => refSame_s4 x.1 x.2.1 x.2.2.1) n (pre ++ rest, (pre' ++ rest', (((pre.length : Nat) : Int), ()))) =
      some (if rest = rest' then .inr () else .inl (false, ())) := by
  intro rest
  induction rest with
  | nil =>
    intro rest' pre pre' n h1 h2 h3 hn
    obtain ⟨n, rfl⟩ := succ_of hn
    have : rest' = [] := List.length_eq_zero_iff.1 (by simpa using h2.symm)
    subst this
    refine iterN_inr ?_
    simp [refSame_s4]
  | cons r rest ih =>
    intro rest' pre pre' n h1 h2 h3 hn
    cases rest' with
    | nil => simp at h2
    | cons r' rest' =>
      simp only [List.length_cons, Nat.add_right_cancel_iff] at h2 h3 hn
      obtain ⟨n, rfl⟩ := succ_of hn
      have hlt : ((pre.length : Nat) : Int) < ((pre ++ r :: rest).length : Int) := lt_mid
      have ew : IntKind.i64.wrap (((pre.length : Nat) : Int) + 1) = (((pre ++ [r]).length : Nat) : Int) := w_mid (by omega)
      have hlk : lk (pre' ++ r' :: rest') ((pre.length : Nat) : Int) = some r' := by rw [h1]; exact lk_mid
      by_cases hc : r = r'
      · subst hc
        have hs := ih rest' (pre ++ [r]) (pre' ++ [r]) n (by simp [h1]) h2 (by simp; omega) (by omega)
        rw [← app_mid, ← app_mid] at hs
        have e : (r :: rest = r :: rest') ↔ rest = rest' := by simp
        simp only [e]
        refine (iterN_inl ?_).trans hs
        simp only [refSame_s4, hlt, decide_true, cond_true, cond_false, lk_mid, hlk, Option.bind_some, Bool.and_self, Bool.not_true, ew]
      · have e : ¬ (r :: rest = r' :: rest') := fun h => hc (List.cons.inj h).1
        rw [if_neg e]
        refine iterN_inr ?_
        have hd : (decide (r.1 = r'.1) && decide (r.2 = r'.2)) = false := by
          cases hb : (decide (r.1 = r'.1) && decide (r.2 = r'.2)) with
          | false => rfl
          | true =>
            simp only [Bool.and_eq_true, decide_eq_true_eq] at hb
            exact absurd (Prod.ext hb.1 hb.2) hc
        simp only [refSame_s4, hlt, decide_true, cond_true, lk_mid, hlk, Option.bind_some, hd, Bool.not_false]

theorem refSame_is (a b : List Rg) (h : a.length ≤ 50000000) : refSame a b = some ((), (decide (a = b), ())) := by
  by_cases hl : a.length = b.length
  · have h1 := refSame_loop a b [] [] fuelN rfl hl (by simp; omega) (by have := fuelN_le; omega)
    have h1' : iterN (fun x => refSame_s4 x.1 x.2.1 x.2.2.1) fuelN (a, (b, ((0 : Int), ()))) = some (if a = b then .inr () else .inl (false, ())) := h1
    have hne : ((a.length : Int) != (b.length : Int)) = false := by simp [hl]
    simp only [refSame, hne, cond_false, Option.bind_some, h1']
    by_cases hab : a = b <;> simp [hab]
  · have hne : ((a.length : Int) != (b.length : Int)) = true := by simp; omega
    have hab : a ≠ b := fun e => hl (by rw [e])
    simp only [refSame, hne, cond_true, Option.bind_some]
    simp [hab]


end Go.Vt.Sg
