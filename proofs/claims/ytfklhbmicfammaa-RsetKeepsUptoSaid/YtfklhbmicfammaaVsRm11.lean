/- The law of points. -/
import Derived.Test.YtfklhbmicfammaaVsRm10
set_option linter.unusedVariables false
set_option maxRecDepth 100000
namespace Go.Vs.Rs
open Go Go.Vs Go.Vs.Rm Go.Sort Go.Vs.Srt

def pt (l : List Int) : List Rg := l.map fun x => (x, x)
theorem pt_length (l : List Int) : (pt l).length = l.length := by simp [pt]
theorem has_pt (l : List Int) (x : Int) : has (pt l) x = l.any (· == x) := by
  rw [Bool.eq_iff_iff]
  simp only [has, pt, List.any_map, List.any_eq_true, Function.comp, Bool.and_eq_true, decide_eq_true_eq, beq_iff_eq]
  constructor
  · rintro ⟨y, h1, h2, h3⟩; exact ⟨y, h1, by omega⟩
  · rintro ⟨y, h1, rfl⟩; exact ⟨y, h1, Int.le_refl _, Int.le_refl _⟩
theorem pt_loop (p1 : List Int) (L : Int) : ∀ (rest pre : List Int) (n : Nat) (p : List Int), L = ((pre ++ rest).length : Int) → pre.length + rest.length ≤ 100000000 → rest.length < n →
    iterN (fun x => lPoints_s6 x.1.1 x.1.2.1 x.1.2.2.1 x.1.2.2.2.1 x.1.2.2.2.2.1 x.2.1) n ((p, (p1, (pre ++ rest, (L, (((pre.length : Nat) : Int), ()))))), (pt pre, ())) = some ((p, (p1, ())), (pt (pre ++ rest), ())) := by
  intro rest
  induction rest with
  | nil =>
    intro pre n p hL h1 hn
    obtain ⟨n, rfl⟩ := succ_of hn
    refine iterN_inr ?_
    have : ¬ ((pre.length : Nat) : Int) < L := by rw [hL]; simp
    simp [lPoints_s6, this]
  | cons x rest ih =>
    intro pre n p hL h1 hn
    simp only [List.length_cons] at h1 hn
    obtain ⟨n, rfl⟩ := succ_of hn
    have hlt : ((pre.length : Nat) : Int) < L := by rw [hL]; exact lt_mid
    have ew : IntKind.i64.wrap (((pre.length : Nat) : Int) + 1) = (((pre ++ [x]).length : Nat) : Int) := w_mid (by omega)
    have hs := ih (pre ++ [x]) n p (by rw [hL]; simp) (by simp; omega) (by omega)
    rw [← app_mid] at hs
    have hrm : roomOk ((pt pre).length + [(x, x)].length) 8 = true := room8 (by rw [pt_length]; simp; omega)
    have e : pt pre ++ [(x, x)] = pt (pre ++ [x]) := by simp [pt]
    refine (iterN_inl ?_).trans hs
    simp only [lPoints_s6, hlt, decide_true, cond_true, lk_mid, Option.bind_some, hrm, ew, e]

theorem fresh_loop (p0 p1 : List Int) (c v : Int) (a34 : List Int) (a35 a36 L : Int) (g : List Rg) : ∀ (rest pre : List Int) (f : Bool) (n : Nat), L = ((pre ++ rest).length : Int) → pre.length + rest.length ≤ 100000000 → rest.length < n →
    iterN (fun x => lPoints_s18 x.1.1 x.1.2.1 x.1.2.2.1 x.1.2.2.2.1 x.1.2.2.2.2.1 x.1.2.2.2.2.2.1 x.1.2.2.2.2.2.2.1 x.1.2.2.2.2.2.2.2.1 x.1.2.2.2.2.2.2.2.2.1 x.1.2.2.2.2.2.2.2.2.2.1 x.1.2.2.2.2.2.2.2.2.2.2.1 x.2.1) n ((p0, (p1, (c, (v, (f, (a34, (a35, (a36, (pre ++ rest, (L, (((pre.length : Nat) : Int), ()))))))))))), (g, ())) = some ((p0, (p1, (c, (f && !rest.any (· == v), (a34, (a35, (a36, ()))))))), (g, ())) := by
  intro rest
  induction rest with
  | nil =>
    intro pre f n hL h1 hn
    obtain ⟨n, rfl⟩ := succ_of hn
    refine iterN_inr ?_
    have : ¬ ((pre.length : Nat) : Int) < L := by rw [hL]; simp
    simp [lPoints_s18, this]
  | cons x rest ih =>
    intro pre f n hL h1 hn
    simp only [List.length_cons] at h1 hn
    obtain ⟨n, rfl⟩ := succ_of hn
    have hlt : ((pre.length : Nat) : Int) < L := by rw [hL]; exact lt_mid
    have ew : IntKind.i64.wrap (((pre.length : Nat) : Int) + 1) = (((pre ++ [x]).length : Nat) : Int) := w_mid (by omega)
    cases f with
    | true =>
      have hs := ih (pre ++ [x]) (x != v) n (by rw [hL]; simp) (by simp; omega) (by omega)
      rw [← app_mid] at hs
      have e : (true && !(x :: rest).any (· == v)) = ((x != v) && !rest.any (· == v)) := by
        simp only [List.any_cons, bne, Bool.true_and, Bool.not_or]
      rw [e]
      refine (iterN_inl ?_).trans hs
      simp only [lPoints_s18, hlt, decide_true, cond_true, lk_mid, Option.bind_some, ew]
    | false =>
      have hs := ih (pre ++ [x]) false n (by rw [hL]; simp) (by simp; omega) (by omega)
      rw [← app_mid] at hs
      rw [Bool.false_and] at hs ⊢
      refine (iterN_inl ?_).trans hs
      simp only [lPoints_s18, hlt, decide_true, cond_true, cond_false, lk_mid, Option.bind_some, ew]

theorem card_add {p : Int → Bool} {v : Int} : ∀ (n : Nat) (b : Int), card (fun x => p x || (v == x)) b n = card p b n + (if (decide (b ≤ v) && decide (v < b + n)) && !p v then 1 else 0)
  | 0, b => by
    have : (decide (b ≤ v) && decide (v < b + ((0 : Nat) : Int))) = false := by
      cases hb : (decide (b ≤ v) && decide (v < b + ((0 : Nat) : Int))) with
      | false => rfl
      | true => simp only [Bool.and_eq_true, decide_eq_true_eq] at hb; omega
    rw [this]; rfl
  | n + 1, b => by
    have ih := card_add (p := p) (v := v) n (b + 1)
    have key : ∀ x : Bool, (if (x || true) = true then 1 else 0) + 0 = (if x = true then 1 else 0) + (if (!x) = true then 1 else 0 : Nat) := by decide
    simp only [card]
    rw [ih]
    by_cases h : v = b
    · subst h
      have e1 : decide (v + 1 ≤ v) = false := by rw [decide_eq_false_iff_not]; omega
      have e2 : decide (v ≤ v) = true := by rw [decide_eq_true_eq]; omega
      have e3 : decide (v < v + ((n + 1 : Nat) : Int)) = true := by rw [decide_eq_true_eq]; omega
      have e4 : (v == v) = true := by simp
      have := key (p v)
      simp only [e1, e2, e3, e4, Bool.false_and, Bool.true_and, Bool.false_eq_true, if_false] at this ⊢
      omega
    · have e4 : (v == b) = false := by simp [h]
      have e5 : decide (b + 1 ≤ v) = decide (b ≤ v) := by
        rw [decide_eq_decide]; omega
      have e6 : decide (v < b + 1 + (n : Int)) = decide (v < b + ((n + 1 : Nat) : Int)) := by
        rw [decide_eq_decide]; omega
      simp only [e4, e5, e6, Bool.or_false]
      omega

theorem count_pt_loop (N : Nat) (hN : N = 1114112) (p0 p1 : List Int) (h0 : p0.length ≤ 10000000) (g : List Rg) : ∀ (rest pre : List Int) (n : Nat), p0 = pre ++ rest → rest.length < n →
    iterN (fun x => lPoints_s12 x.1.1 x.1.2.1 x.1.2.2.1 x.1.2.2.2.1 x.1.2.2.2.2.1 x.1.2.2.2.2.2.1 x.2.1) n ((p0, (p1, (((card (has (pt pre)) 0 N : Nat) : Int), (p0, ((p0.length : Int), (((pre.length : Nat) : Int), ())))))), (g, ())) = some ((p0, (p1, (((card (has (pt p0)) 0 N : Nat) : Int), ()))), (g, ())) := by
  intro rest
  induction rest with
  | nil =>
    intro pre n hp hn
    obtain ⟨n, rfl⟩ := succ_of hn
    rw [List.append_nil] at hp
    subst hp
    refine iterN_inr ?_
    have : ¬ ((p0.length : Nat) : Int) < (p0.length : Int) := by omega
    simp only [lPoints_s12, this, decide_false, cond_false]
  | cons v rest ih =>
    intro pre n hp hn
    simp only [List.length_cons] at hn
    obtain ⟨n, rfl⟩ := succ_of hn
    have hll : p0.length = pre.length + rest.length + 1 := by rw [hp]; simp; omega
    have hlt : ((pre.length : Nat) : Int) < (p0.length : Int) := by omega
    have ew : IntKind.i64.wrap (((pre.length : Nat) : Int) + 1) = (((pre ++ [v]).length : Nat) : Int) := w_mid (by omega)
    have hk : lk p0 ((pre.length : Nat) : Int) = some v := by rw [hp]; exact lk_mid
    have hs := ih (pre ++ [v]) n (by rw [hp]; simp) (by omega)
    have hin : inB (0 : Int) ((pre.length : Nat) : Int) p0.length = true := by
      simp only [inB, Bool.and_eq_true, decide_eq_true_eq]; omega
    have hcut : cut p0 (0 : Int) ((pre.length : Nat) : Int) = pre := by
      have e1 : (((pre.length : Nat) : Int) - (0 : Int)).toNat = pre.length := by omega
      simp only [cut, e1, Int.toNat_zero, List.drop_zero]
      rw [hp]; simp
    have hc := card_add (p := has (pt pre)) (v := v) N 0
    have hb := card_le (p := has (pt pre)) N 0
    have e0 : card (has (pt (pre ++ [v]))) 0 N = card (fun x => has (pt pre) x || (v == x)) 0 N := card_congr _ _ fun x _ _ => by
      rw [has_pt, has_pt]; simp
    rw [e0, hc] at hs
    have hv' : (decide ((0 : Int) ≤ v) && decide (v < 0 + (N : Int))) = (decide (0 ≤ v) && decide (v ≤ 1114111)) := by
      congr 1; rw [decide_eq_decide]; omega
    rw [hv', has_pt] at hs
    generalize card (has (pt pre)) 0 N = k at hs hb ⊢
    have hf := fun f => fresh_loop p0 p1 ((k : Nat) : Int) v p0 (p0.length : Int) ((pre.length : Nat) : Int) (pre.length : Int) g pre [] f fuelN rfl (by simp; omega) (by have := fuelN_le; omega)
    have hf' : ∀ f, iterN (fun x => lPoints_s18 x.1.1 x.1.2.1 x.1.2.2.1 x.1.2.2.2.1 x.1.2.2.2.2.1 x.1.2.2.2.2.2.1 x.1.2.2.2.2.2.2.1 x.1.2.2.2.2.2.2.2.1 x.1.2.2.2.2.2.2.2.2.1 x.1.2.2.2.2.2.2.2.2.2.1 x.1.2.2.2.2.2.2.2.2.2.2.1 x.2.1) fuelN ((p0, (p1, (((k : Nat) : Int), (v, (f, (p0, ((p0.length : Int), (((pre.length : Nat) : Int), (pre, ((pre.length : Int), ((0 : Int), ()))))))))))), (g, ())) = some ((p0, (p1, (((k : Nat) : Int), (f && !pre.any (· == v), (p0, ((p0.length : Int), (((pre.length : Nat) : Int), ()))))))), (g, ())) := hf
    have wk : IntKind.i64.wrap (((k : Nat) : Int) + 1) = ((k + 1 : Nat) : Int) := w_succ (by omega)
    refine (iterN_inl ?_).trans hs
    by_cases c1 : 0 ≤ v <;> by_cases c2 : v ≤ 1114111 <;> cases c3 : pre.any (· == v) <;>
      simp only [lPoints_s12, hlt, decide_true, decide_false, cond_true, cond_false, hk, Option.bind_some, ge_iff_le, c1, c2, hin, hcut, hf', c3, Bool.not_true, Bool.not_false, Bool.and_true, Bool.and_false, ew, wk, if_true, if_false, Bool.false_eq_true, Nat.add_zero]

theorem flag_loop (g5 : List Rg) (c v a71 a72 L : Int) (g : List Int) (p0 : List Int) : ∀ (rest pre : List Int) (f : Bool) (n : Nat), L = ((pre ++ rest).length : Int) → pre.length + rest.length ≤ 100000000 → rest.length < n →
    iterN (fun x => lPoints_s32 x.1.1 x.1.2.1 x.1.2.2.1 x.1.2.2.2.1 x.1.2.2.2.2.1 x.1.2.2.2.2.2.1 x.1.2.2.2.2.2.2.1 x.1.2.2.2.2.2.2.2.1 x.1.2.2.2.2.2.2.2.2.1 x.1.2.2.2.2.2.2.2.2.2.1 x.2.1) n ((p0, (g5, (c, (v, (f, (a71, (a72, (pre ++ rest, (L, (((pre.length : Nat) : Int), ())))))))))), (g, ())) = some ((p0, (g5, (c, (v, ((f || (rest.any (· == v) && (decide (0 ≤ v) && decide (v ≤ 1114111)))), (a71, (a72, ()))))))), (g, ())) := by
  intro rest
  induction rest with
  | nil =>
    intro pre f n hL h1 hn
    obtain ⟨n, rfl⟩ := succ_of hn
    refine iterN_inr ?_
    have : ¬ ((pre.length : Nat) : Int) < L := by rw [hL]; simp
    simp [lPoints_s32, this]
  | cons x rest ih =>
    intro pre f n hL h1 hn
    simp only [List.length_cons] at h1 hn
    obtain ⟨n, rfl⟩ := succ_of hn
    have hlt : ((pre.length : Nat) : Int) < L := by rw [hL]; exact lt_mid
    have ew : IntKind.i64.wrap (((pre.length : Nat) : Int) + 1) = (((pre ++ [x]).length : Nat) : Int) := w_mid (by omega)
    have hs := fun f => ih (pre ++ [x]) f n (by rw [hL]; simp) (by simp; omega) (by omega)
    simp only [← app_mid] at hs
    cases f with
    | true =>
      have hs := hs true
      rw [Bool.true_or] at hs ⊢
      refine (iterN_inl ?_).trans hs
      simp only [lPoints_s32, hlt, decide_true, cond_true, lk_mid, Option.bind_some, ew]
    | false =>
      have e : (false || ((x :: rest).any (· == v) && (decide (0 ≤ v) && decide (v ≤ 1114111)))) = (((x == v) && (decide (0 ≤ v) && decide (v ≤ 1114111))) || (rest.any (· == v) && (decide (0 ≤ v) && decide (v ≤ 1114111)))) := by
        simp only [List.any_cons, Bool.false_or, Bool.and_or_distrib_right]
      rw [e]
      refine (iterN_inl ?_).trans (hs _)
      by_cases c1 : 0 ≤ v <;> cases c3 : (x == v) <;>
        simp only [lPoints_s32, hlt, decide_true, decide_false, cond_true, cond_false, lk_mid, Option.bind_some, ge_iff_le, c1, c3, Bool.true_and, Bool.false_and, ew]

theorem ask_pt_loop (p0 : List Int) (h0 : p0.length ≤ 10000000) (c : Int) (Q : List Int) : ∀ (rest pre : List Int) (n : Nat), Q = pre ++ rest → Q.length ≤ 100000000 → rest.length < n →
    iterN (fun x => lPoints_s27 x.1.1 x.1.2.1 x.1.2.2.1 x.1.2.2.2.1 x.1.2.2.2.2.1 x.2.1) n ((p0, (pt p0, (c, ((Q.length : Int), (((pre.length : Nat) : Int), ()))))), (Q, ())) = some (.inr ((pt p0, (c, ())), ())) := by
  intro rest
  induction rest with
  | nil =>
    intro pre n hQ h1 hn
    obtain ⟨n, rfl⟩ := succ_of hn
    refine iterN_inr ?_
    have : ¬ ((pre.length : Nat) : Int) < (Q.length : Int) := by rw [hQ]; simp
    simp only [lPoints_s27, this, decide_false, cond_false]
  | cons v rest ih =>
    intro pre n hQ h1 hn
    simp only [List.length_cons] at hn
    obtain ⟨n, rfl⟩ := succ_of hn
    have hll : Q.length = pre.length + rest.length + 1 := by rw [hQ]; simp; omega
    have hlt : ((pre.length : Nat) : Int) < (Q.length : Int) := by omega
    have ew : IntKind.i64.wrap (((pre.length : Nat) : Int) + 1) = (((pre ++ [v]).length : Nat) : Int) := w_mid (by omega)
    have hk : lk Q ((pre.length : Nat) : Int) = some v := by rw [hQ]; exact lk_mid
    have hs := ih (pre ++ [v]) n (by rw [hQ]; simp) h1 (by omega)
    have hf := flag_loop (pt p0) c v (Q.length : Int) ((pre.length : Nat) : Int) (p0.length : Int) Q p0 p0 [] false fuelN rfl (by simp; omega) (by have := fuelN_le; omega)
    have hf' : iterN (fun x => lPoints_s32 x.1.1 x.1.2.1 x.1.2.2.1 x.1.2.2.2.1 x.1.2.2.2.2.1 x.1.2.2.2.2.2.1 x.1.2.2.2.2.2.2.1 x.1.2.2.2.2.2.2.2.1 x.1.2.2.2.2.2.2.2.2.1 x.1.2.2.2.2.2.2.2.2.2.1 x.2.1) fuelN ((p0, (pt p0, (c, (v, (false, ((Q.length : Int), (((pre.length : Nat) : Int), (p0, ((p0.length : Int), ((0 : Int), ())))))))))), (Q, ())) = some ((p0, (pt p0, (c, (v, ((false || (p0.any (· == v) && (decide (0 ≤ v) && decide (v ≤ 1114111)))), ((Q.length : Int), (((pre.length : Nat) : Int), ()))))))), (Q, ())) := hf
    have k1 := rNorm_eq' (pt p0) (by rw [pt_length]; omega)
    have k2 := rHas_is (norm (pt p0)) v (by have := nrm_len (norm_spec (pt p0)).1; omega)
    have k3 : hv (norm (pt p0)) v = (false || (p0.any (· == v) && (decide (0 ≤ v) && decide (v ≤ 1114111)))) := by
      unfold hv
      by_cases c1 : 0 ≤ v
      · by_cases c2 : v ≤ 1114111
        · rw [has_norm c1 c2, has_pt]; simp [c1, c2]
        · simp [c2]
      · simp [c1]
    rw [k3] at k2
    refine (iterN_inl ?_).trans hs
    simp only [lPoints_s27, hlt, decide_true, cond_true, hk, Option.bind_some, hf', k1, k2, beq_self_eq_true, Bool.not_true, cond_false, ew]

theorem lPoints_is (a b : List Int) (ha : a.length ≤ 10000000) (hb : b.length ≤ 10000000) : lPoints a b = some ((), (true, ())) := by
  have h1 := pt_loop b (a.length : Int) a [] fuelN a rfl (by simp; omega) (by have := fuelN_le; omega)
  have h1' : iterN (fun x => lPoints_s6 x.1.1 x.1.2.1 x.1.2.2.1 x.1.2.2.2.1 x.1.2.2.2.2.1 x.2.1) fuelN ((a, (b, (a, ((a.length : Int), ((0 : Int), ()))))), (([] : List (Int × Int)), ())) = some ((a, (b, ())), (pt a, ())) := h1
  obtain ⟨N, hN⟩ : ∃ N : Nat, N = 1114112 := ⟨_, rfl⟩
  have h2 := count_pt_loop N hN a b ha (pt a) a [] fuelN rfl (by have := fuelN_le; omega)
  have h20 : card (has (pt [])) 0 N = 0 := card_none _ _ fun x _ _ => rfl
  rw [h20] at h2
  have h2' : iterN (fun x => lPoints_s12 x.1.1 x.1.2.1 x.1.2.2.1 x.1.2.2.2.1 x.1.2.2.2.2.1 x.1.2.2.2.2.2.1 x.2.1) fuelN ((a, (b, ((0 : Int), (a, ((a.length : Int), ((0 : Int), ())))))), (pt a, ())) = some ((a, (b, (((card (has (pt a)) 0 N : Nat) : Int), ()))), (pt a, ())) := h2
  have r1 : roomOk (([] : List Int).length + b.length) 4 = true := roomK (by decide) (by simp; omega)
  have r2 : roomOk ((([] : List Int) ++ b).length + a.length) 4 = true := roomK (by decide) (by simp; omega)
  have h3 := ask_pt_loop a ha ((card (has (pt a)) 0 N : Nat) : Int) (([] ++ b) ++ a) (([] ++ b) ++ a) [] fuelN rfl (by simp; omega) (by have := fuelN_le; simp; omega)
  have h3' : iterN (fun x => lPoints_s27 x.1.1 x.1.2.1 x.1.2.2.1 x.1.2.2.2.1 x.1.2.2.2.2.1 x.2.1) fuelN ((a, (pt a, (((card (has (pt a)) 0 N : Nat) : Int), ((((([] : List Int) ++ b) ++ a).length : Int), ((0 : Int), ()))))), ((([] : List Int) ++ b) ++ a, ())) = some (.inr ((pt a, (((card (has (pt a)) 0 N : Nat) : Int), ())), ())) := h3
  have k := rCount_is (pt a) (by rw [pt_length]; omega)
  have k2 : cntL (norm (pt a)) = ((card (has (pt a)) 0 N : Nat) : Int) := by
    rw [cntL_card _ 0 N (norm_spec (pt a)).1 (by omega), card_congr N 0 fun x h0 h1 => has_norm (a := pt a) h0 (by omega)]
  rw [k2] at k
  simp only [lPoints, fixed_is, Option.bind_some, Bool.not_true, cond_false, cond_true, h1', h2', r1, r2, h3', k, beq_self_eq_true]

end Go.Vs.Rs
