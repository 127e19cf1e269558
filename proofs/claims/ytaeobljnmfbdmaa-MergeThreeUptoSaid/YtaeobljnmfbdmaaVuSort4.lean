/- The sort's values' functions sort. -/
import Derived.Test.YtaeobljnmfbdmaaVuSort3
set_option linter.unusedVariables false
set_option maxRecDepth 100000
namespace Go.Vu.Srt
open Go Go.Vu Go.Sort
variable {α : Type} [Inhabited α]
variable {less : α → α → Option (Unit × (Bool × Unit))} {lt : α → α → Bool} (hl : ∀ x y, less x y = some ((), (lt x y, ())))
theorem scanSorted_ge (d : Array α) (b : Nat) : ∀ (k i : Nat), k = b - i → i ≤ scanSorted lt d b i := by
  intro k
  induction k with
  | zero => intro i hk; rw [scanSorted, if_neg (by simp; omega)]; exact Nat.le_refl _
  | succ k ih =>
   intro i hk
   rw [scanSorted]
   split
   ·have := ih (i + 1) (by omega); omega
   ·exact Nat.le_refl _
theorem scanSorted_le (d : Array α) (b : Nat) : ∀ (k i : Nat), k = b - i → i ≤ b → scanSorted lt d b i ≤ b := by
  intro k
  induction k with
  | zero => intro i hk hi; rw [scanSorted, if_neg (by simp; omega)]; exact hi
  | succ k ih =>
   intro i hk hi
   rw [scanSorted]
   split
   ·rename_i h
    simp only [Bool.and_eq_true, decide_eq_true_eq] at h
    exact ih (i + 1) (by omega) (by omega)
   ·exact hi
theorem shiftDown_size (lt : α → α → Bool) : ∀ (j : Nat) (d : Array α), (shiftDown lt j d).size = d.size := by
  intro j
  induction j with
  | zero => intro d; rfl
  | succ j ih =>
   intro d
   simp only [shiftDown]
   split
   ·rfl
   ·rw [ih, swp_size]
theorem shiftUp_size (lt : α → α → Bool) (b : Nat) : ∀ (k j : Nat) (d : Array α), k = b - j → (shiftUp lt b j d).size = d.size := by
  intro k
  induction k with
  | zero => intro j d hk; rw [shiftUp, if_neg (by omega)]
  | succ k ih =>
   intro j d hk
   rw [shiftUp, if_pos (by omega)]
   split
   ·rfl
   ·rw [ih _ _ (by omega), swp_size]
 include hl
theorem scanSorted_tie (a b : Nat) (t : Int) (d : Array α) (hb : b ≤ d.size) (hs : d.size < 2305843009213693952) : ∀ (k i : Nat), k = b - i → 0 < i → i ≤ b → ∀ n, k < n →
   iterN (fun x => partIns_s8 less x.1 x.2.1 x.2.2.1 x.2.2.2.1 x.2.2.2.2.1) n (d.toList, ((a : Int), ((b : Int), ((i : Int), (t, ()))))) =
    some (d.toList, ((a : Int), ((b : Int), (((scanSorted lt d b i : Nat) : Int), (t, ()))))) := by
  intro k
  induction k with
  | zero =>
   intro i hk h0 hi n hn
   obtain ⟨n, rfl⟩ := succ_of hn
   have h1' : ¬ (i : Int) < (b : Int) := by omega
   rw [scanSorted, if_neg (by simp; omega)]
   refine iterN_inr ?_
   simp only [Option.bind_some, partIns_s8, h1', decide_false, cond_false]
  | succ k ih =>
   intro i hk h0 hi n hn
   obtain ⟨n, rfl⟩ := succ_of hn
   have h1' : (i : Int) < (b : Int) := by omega
   rw [scanSorted]
   cases h2 : lt d[i]! d[i - 1]!
   ·rw [if_pos (by simp; omega)]
    refine (iterN_inl ?_).trans (ih (i + 1) (by omega) (by omega) (by omega) n (by omega))
    simp (disch := omega) only [Option.bind_some, partIns_s8, h1', h2, decide_true, cond_true, lk_at, hl, w_succ, w_pred', Bool.not_false]
   ·rw [if_neg (by simp)]
    refine iterN_inr ?_
    simp (disch := omega) only [Option.bind_some, partIns_s8, h1', h2, decide_true, cond_true, cond_false, lk_at, hl, w_pred', Bool.not_true]
theorem shiftDown_tie (a b i t : Int) : ∀ (j : Nat) (d : Array α), j < d.size → d.size < 2305843009213693952 → ∀ n, j < n →
   iterN (fun x => partIns_s35 less x.1 x.2.1 x.2.2.1 x.2.2.2.1 x.2.2.2.2.1 x.2.2.2.2.2.1) n (d.toList, (a, (b, (i, (t, ((j : Int), ())))))) =
    some ((shiftDown lt j d).toList, (a, (b, (i, (t, ()))))) := by
  intro j
  induction j with
  | zero =>
   intro d hj hs n hn
   obtain ⟨n, rfl⟩ := succ_of hn
   have h1' : ¬ ((0 : Nat) : Int) ≥ 1 := by omega
   refine iterN_inr ?_
   simp only [Option.bind_some, partIns_s35, h1', decide_false, cond_false, shiftDown]
  | succ j ih =>
   intro d hj hs n hn
   obtain ⟨n, rfl⟩ := succ_of hn
   have h1' : ((j + 1 : Nat) : Int) ≥ 1 := by omega
   simp only [shiftDown]
   cases h2 : lt d[j + 1]! d[j]!
   ·refine iterN_inr ?_
    simp (disch := omega) only [Option.bind_some, partIns_s35, h1', h2, decide_true, cond_true, lk_at, hl, w_pred, Bool.not_false, if_true]
   ·rw [if_neg (by simp)]
    refine (iterN_inl ?_).trans (ih (swp d (j + 1) j) (by rw [swp_size]; omega) (by rw [swp_size]; omega) n (by omega))
    simp (disch := omega) only [Option.bind_some, partIns_s35, h1', h2, decide_true, cond_true, cond_false, lk_at, lk_set, Int.toNat_natCast, swp_list, hl, w_pred, Bool.not_true]
theorem shiftUp_tie (a i t : Int) (b : Nat) : ∀ (k j : Nat) (d : Array α), k = b - j → 0 < j → b ≤ d.size → d.size < 2305843009213693952 → ∀ n, k < n →
   iterN (fun x => partIns_s60 less x.1 x.2.1 x.2.2.1 x.2.2.2.1 x.2.2.2.2.1 x.2.2.2.2.2.1) n (d.toList, (a, ((b : Int), (i, (t, ((j : Int), ())))))) =
    some ((shiftUp lt b j d).toList, (a, ((b : Int), (i, (t, ()))))) := by
  intro k
  induction k with
  | zero =>
   intro j d hk h0 hb hs n hn
   obtain ⟨n, rfl⟩ := succ_of hn
   have h1' : ¬ (j : Int) < (b : Int) := by omega
   rw [shiftUp, if_neg (by omega)]
   refine iterN_inr ?_
   simp only [Option.bind_some, partIns_s60, h1', decide_false, cond_false]
  | succ k ih =>
   intro j d hk h0 hb hs n hn
   obtain ⟨n, rfl⟩ := succ_of hn
   have h1' : (j : Int) < (b : Int) := by omega
   rw [shiftUp, if_pos (by omega)]
   cases h2 : lt d[j]! d[j - 1]!
   ·refine iterN_inr ?_
    simp (disch := omega) only [Option.bind_some, partIns_s60, h1', h2, decide_true, cond_true, lk_at, hl, w_pred', Bool.not_false, if_true]
   ·rw [if_neg (by simp)]
    refine (iterN_inl ?_).trans (ih (j + 1) (swp d j (j - 1)) (by omega) (by omega) (by rw [swp_size]; omega) (by rw [swp_size]; omega) n (by omega))
    simp (disch := omega) only [Option.bind_some, partIns_s60, h1', h2, decide_true, cond_true, cond_false, lk_at, lk_set, Int.toNat_natCast, swp_list, hl, w_pred', w_succ, Bool.not_true]
theorem partIns_tie0 (a b : Nat) (hab : a < b) : ∀ (s i : Nat) (d : Array α), s ≤ 5 → a < i → i ≤ b → b ≤ d.size → d.size < 2305843009213693952 → ∀ n, s < n →
   ∃ y, iterN (fun x => partIns_s2 less x.1 x.2.1 x.2.2.1 x.2.2.2.1 x.2.2.2.2.1) n (d.toList, ((a : Int), ((b : Int), ((i : Int), (((5 - s : Nat) : Int), ()))))) = some y ∧
    (y = .inl ((Sort.partialIns lt a b s i d).1.toList, ((Sort.partialIns lt a b s i d).2, ())) ∨ ((Sort.partialIns lt a b s i d).2 = false ∧ y = .inr ((Sort.partialIns lt a b s i d).1.toList, ()))) := by
  intro s
  induction s with
  | zero =>
   intro i d hs5 hai hib hb hs n hn
   obtain ⟨n, rfl⟩ := succ_of hn
   have h1' : ¬ ((5 - 0 : Nat) : Int) < 5 := by omega
   refine ⟨_, iterN_inr ?_, .inr ⟨rfl, rfl⟩⟩
   simp only [Option.bind_some, partIns_s2, h1', decide_false, cond_false, Sort.partialIns]
  | succ s ih =>
   intro i d hs5 hai hib hb hs n hn
   obtain ⟨n, rfl⟩ := succ_of hn
   have h1' : ((5 - (s + 1) : Nat) : Int) < 5 := by omega
   have hsc := scanSorted_tie hl a b ((5 - (s + 1) : Nat) : Int) d hb hs _ i rfl (by omega) hib fuelN (by have := fuelN_le; omega)
   have g1 := scanSorted_ge (lt := lt) d b _ i rfl
   have g2 := scanSorted_le (lt := lt) d b _ i rfl hib
   simp only [Sort.partialIns]
   generalize hi2 : scanSorted lt d b i = i2 at *
   have e0 : IntKind.i64.wrap ((b : Int) - (a : Int)) = ((b - a : Nat) : Int) := w_sub (by omega) (by omega)
   by_cases h2 : i2 = b
   ·rw [if_pos h2]
    refine ⟨_, iterN_inr ?_, .inl rfl⟩
    have h2' : ((i2 : Int) == (b : Int)) = true := by simp [h2]
    simp only [Option.bind_some, partIns_s2, h1', decide_true, cond_true, hsc, h2']
   ·have h2' : ((i2 : Int) == (b : Int)) = false := by simp; omega
    rw [if_neg h2]
    by_cases h3 : b - a < 50
    ·have h3' : ((b - a : Nat) : Int) < 50 := by omega
     rw [if_pos h3]
     refine ⟨_, iterN_inr ?_, .inl rfl⟩
     simp only [Option.bind_some, partIns_s2, h1', decide_true, cond_true, cond_false, hsc, h2', e0, h3']
    ·have h3' : ¬ ((b - a : Nat) : Int) < 50 := by omega
     rw [if_neg h3]
     have e1 : IntKind.i64.wrap ((i2 : Int) - (a : Int)) = ((i2 - a : Nat) : Int) := w_sub (by omega) (by omega)
     have e2 : IntKind.i64.wrap ((b : Int) - (i2 : Int)) = ((b - i2 : Nat) : Int) := w_sub (by omega) (by omega)
     have e5 : IntKind.i64.wrap (((5 - (s + 1) : Nat) : Int) + 1) = ((5 - s : Nat) : Int) := by rw [wrap64] <;> omega
     have w1 : (swp d i2 (i2 - 1)).size = d.size := swp_size _ _ _
     have q1 := shiftDown_tie hl (a : Int) (b : Int) (i2 : Int) ((5 - (s + 1) : Nat) : Int) (i2 - 1) (swp d i2 (i2 - 1)) (by omega) (by omega) fuelN (by have := fuelN_le; omega)
     by_cases h4 : i2 - a ≥ 2
     ·have h4' : ((i2 - a : Nat) : Int) ≥ 2 := by omega
      have w2 : (shiftDown lt (i2 - 1) (swp d i2 (i2 - 1))).size = d.size := by rw [shiftDown_size, w1]
      rw [if_pos h4]
      by_cases h5 : b - i2 ≥ 2
      ·have h5' : ((b - i2 : Nat) : Int) ≥ 2 := by omega
       have q2 := shiftUp_tie hl (a : Int) (i2 : Int) ((5 - (s + 1) : Nat) : Int) b _ (i2 + 1) (shiftDown lt (i2 - 1) (swp d i2 (i2 - 1))) rfl (by omega) (by omega) (by omega) fuelN (by have := fuelN_le; omega)
       rw [if_pos h5]
       obtain ⟨y, hy1, hy2⟩ := ih i2 (shiftUp lt b (i2 + 1) (shiftDown lt (i2 - 1) (swp d i2 (i2 - 1)))) (by omega) (by omega) (by omega) (by rw [shiftUp_size _ _ _ _ _ rfl]; omega) (by rw [shiftUp_size _ _ _ _ _ rfl]; omega) n (by omega)
       refine ⟨y, (iterN_inl ?_).trans hy1, hy2⟩
       simp (disch := omega) only [Option.bind_some, partIns_s2, h1', decide_true, cond_true, cond_false, hsc, h2', e0, h3', decide_false, lk_at, lk_set, w_pred', w_succ, Int.toNat_natCast, swp_list, e1, e2, h4', h5', q1, q2, e5]
      ·have h5' : ¬ ((b - i2 : Nat) : Int) ≥ 2 := by omega
       rw [if_neg h5]
       obtain ⟨y, hy1, hy2⟩ := ih i2 (shiftDown lt (i2 - 1) (swp d i2 (i2 - 1))) (by omega) (by omega) (by omega) (by omega) (by omega) n (by omega)
       refine ⟨y, (iterN_inl ?_).trans hy1, hy2⟩
       simp (disch := omega) only [Option.bind_some, partIns_s2, h1', decide_true, cond_true, cond_false, hsc, h2', e0, h3', decide_false, lk_at, lk_set, w_pred', w_succ, Int.toNat_natCast, swp_list, e1, e2, h4', h5', q1, e5]
     ·have h4' : ¬ ((i2 - a : Nat) : Int) ≥ 2 := by omega
      rw [if_neg h4]
      by_cases h5 : b - i2 ≥ 2
      ·have h5' : ((b - i2 : Nat) : Int) ≥ 2 := by omega
       have q2 := shiftUp_tie hl (a : Int) (i2 : Int) ((5 - (s + 1) : Nat) : Int) b _ (i2 + 1) (swp d i2 (i2 - 1)) rfl (by omega) (by omega) (by omega) fuelN (by have := fuelN_le; omega)
       rw [if_pos h5]
       obtain ⟨y, hy1, hy2⟩ := ih i2 (shiftUp lt b (i2 + 1) (swp d i2 (i2 - 1))) (by omega) (by omega) (by omega) (by rw [shiftUp_size _ _ _ _ _ rfl]; omega) (by rw [shiftUp_size _ _ _ _ _ rfl]; omega) n (by omega)
       refine ⟨y, (iterN_inl ?_).trans hy1, hy2⟩
       simp (disch := omega) only [Option.bind_some, partIns_s2, h1', decide_true, cond_true, cond_false, hsc, h2', e0, h3', decide_false, lk_at, lk_set, w_pred', w_succ, Int.toNat_natCast, swp_list, e1, e2, h4', h5', q2, e5]
      ·have h5' : ¬ ((b - i2 : Nat) : Int) ≥ 2 := by omega
       rw [if_neg h5]
       obtain ⟨y, hy1, hy2⟩ := ih i2 (swp d i2 (i2 - 1)) (by omega) (by omega) (by omega) (by omega) (by omega) n (by omega)
       refine ⟨y, (iterN_inl ?_).trans hy1, hy2⟩
       simp (disch := omega) only [Option.bind_some, partIns_s2, h1', decide_true, cond_true, cond_false, hsc, h2', e0, h3', decide_false, lk_at, lk_set, w_pred', w_succ, Int.toNat_natCast, swp_list, e1, e2, h4', h5', e5]
theorem partIns_tie (a b : Nat) (d : Array α) (hab : a < b) (hb : b ≤ d.size) (hs : d.size < 2305843009213693952) :
   Srt.partIns less d.toList (a : Int) (b : Int) = some ((partialInsertionSort lt d a b).1.toList, ((partialInsertionSort lt d a b).2, ())) := by
  obtain ⟨y, h1, h2⟩ := partIns_tie0 hl a b hab 5 (a + 1) d (by omega) (by omega) (by omega) hb hs fuelN (by have := fuelN_le; omega)
  have e0 : IntKind.i64.wrap ((a : Int) + 1) = ((a + 1 : Nat) : Int) := w_succ (by omega)
  have h1' : iterN (fun x => partIns_s2 less x.1 x.2.1 x.2.2.1 x.2.2.2.1 x.2.2.2.2.1) fuelN (d.toList, ((a : Int), ((b : Int), (((a + 1 : Nat) : Int), ((0 : Int), ()))))) = some y := h1
  simp only [Option.bind_some, Srt.partIns, e0, h1', partialInsertionSort]
  rcases h2 with h2 | ⟨h2, h3⟩
  ·subst h2; rfl
  ·subst h3; simp only [h2]
def Sorts (lt : α → α → Bool) (rec : List α → Int → Int → Int → Option (List α × Unit)) (N : Nat) : Prop :=
  ∀ (a b limit : Nat) (d : Array α), b - a < N → a ≤ b → b ≤ d.size → d.size < 2305843009213693952 → limit < 1000 → Below lt a b d →
   ∃ d', rec d.toList (a : Int) (b : Int) (limit : Int) = some (d'.toList, ()) ∧ PermIn a b d d' ∧ SortedIn lt a b d'
set_option maxHeartbeats 2000000 in
theorem pdq_loop (hS : SWO lt) {rec : List α → Int → Int → Int → Option (List α × Unit)} {N : Nat} (hrec : Sorts lt rec N) :
   ∀ (k a b limit : Nat) (wb wp : Bool) (d : Array α), k = b - a → b - a ≤ N → a ≤ b → b ≤ d.size → d.size < 2305843009213693952 → limit < 1000 → Below lt a b d → ∀ n, k < n →
   ∃ d', iterN (fun x => pdq0_s2 less rec x.1 x.2.1 x.2.2.1 x.2.2.2.1 x.2.2.2.2.1 x.2.2.2.2.2.1) n (d.toList, ((a : Int), ((b : Int), ((limit : Int), (wb, (wp, ())))))) = some (d'.toList, ()) ∧ PermIn a b d d' ∧ SortedIn lt a b d' := by
  intro k
  induction k using Nat.strongRecOn with
  | _ k ih =>
   intro a b limit wb wp d hk hN hab hb hs hlim hB n hn
   obtain ⟨n, rfl⟩ := succ_of hn
   have e0 : IntKind.i64.wrap ((b : Int) - (a : Int)) = ((b - a : Nat) : Int) := w_sub hab (by omega)
   by_cases h12 : b - a ≤ 12
   ·have h12' : ((b - a : Nat) : Int) ≤ 12 := by omega
    have h1 := insSort_tie hl a b d hb (by omega) (by omega)
    obtain ⟨p1, p2⟩ := insertionSort_holds (lt := lt) hS d a b hab hb
    refine ⟨_, iterN_inr ?_, p1, p2⟩
    simp only [Option.bind_some, pdq0_s2, e0, h12', decide_true, cond_true, h1]
   ·have h12' : ¬ ((b - a : Nat) : Int) ≤ 12 := by omega
    by_cases hl0 : limit = 0
    ·have hl0' : ((limit : Int) == 0) = true := by simp [hl0]
     have h1 := heapSort_tie hl a b d hab hb hs
     obtain ⟨p1, p2⟩ := heapSort_holds (lt := lt) hS d a b hab hb
     refine ⟨_, iterN_inr ?_, p1, p2⟩
     simp only [Option.bind_some, pdq0_s2, e0, h12', decide_false, cond_false, hl0', cond_true, h1]
    ·have hl0' : ((limit : Int) == 0) = false := by simp; omega
     obtain ⟨d1, lim1, s1, hlim1, hA⟩ : ∃ (d1 : Array α) (lim1 : Nat), PermIn a b d d1 ∧ lim1 ≤ limit ∧
       ((wb = false ∧ breakPat d.toList (a : Int) (b : Int) = some (d1.toList, ()) ∧ IntKind.i64.wrap ((limit : Int) - 1) = (lim1 : Int)) ∨ (wb = true ∧ d1 = d ∧ lim1 = limit)) := by
      cases wb
      ·obtain ⟨d1, h1, h2⟩ := breakPat_tie a b d hab hb hs
       exact ⟨d1, limit - 1, h2, by omega, .inl ⟨rfl, h1, w_pred' (by omega) (by omega)⟩⟩
      ·exact ⟨d, limit, permIn_refl _ _ _, Nat.le_refl _, .inr ⟨rfl, rfl, rfl⟩⟩
     have b1 : b ≤ d1.size := by rw [s1.1]; exact hb
     have hs1 : d1.size < 2305843009213693952 := by rw [s1.1]; exact hs
     have hcp := choosePiv_tie hl d1 a b hab (by omega) b1 hs1
     have hc0 := choosePivot_holds lt d1 a b (by omega)
     generalize choosePivot lt d1 a b = c at hcp hc0
     obtain ⟨c1, c2⟩ := c
     simp only at hcp hc0
     obtain ⟨d2, pivot, h, s2, hp1, hp2, hC⟩ : ∃ (d2 : Array α) (pivot : Nat) (h : Int), PermIn a b d1 d2 ∧ a ≤ pivot ∧ pivot < b ∧
       ((
        (hintI c2 == 2) = true ∧ revRange d1.toList (a : Int) (b : Int) = some (d2.toList, ()) ∧ IntKind.i64.wrap (((b - 1 : Nat) : Int) - (IntKind.i64.wrap ((c1 : Int) - (a : Int)))) = (pivot : Int) ∧ h = 1) ∨
        ((hintI c2 == 2) = false ∧ d2 = d1 ∧ pivot = c1 ∧ h = hintI c2)) := by
      cases hc2 : (hintI c2 == 2)
      ·exact ⟨d1, c1, _, permIn_refl _ _ _, hc0.1, hc0.2, .inr ⟨rfl, rfl, rfl, rfl⟩⟩
      ·refine ⟨_, (b - 1) - (c1 - a), 1, reverseRange_holds d1 a b hab b1, by omega, by omega, .inl ⟨rfl, revRange_tie a b d1 (by omega) b1 hs1, ?_, rfl⟩⟩
       rw [w_sub hc0.1 (by omega), w_sub (by omega) (by omega)]
     have b2 : b ≤ d2.size := by rw [s2.1]; exact b1
     have hs2 : d2.size < 2305843009213693952 := by rw [s2.1]; exact hs1
     have B2 : Below lt a b d2 := (hB.perm hb s1).perm b1 s2
     obtain ⟨d3, bb, s3, hsorted, hD⟩ : ∃ (d3 : Array α) (bb : Bool), PermIn a b d2 d3 ∧ (bb = true → SortedIn lt a b d3) ∧
       ((
        wb = true ∧ wp = true ∧ (h == 1) = true ∧ Srt.partIns less d2.toList (a : Int) (b : Int) = some (d3.toList, (bb, ()))) ∨ (wb = false ∧ d3 = d2 ∧ bb = false) ∨ (wb = true ∧ wp = false ∧ d3 = d2 ∧ bb = false) ∨
        (wb = true ∧ wp = true ∧ (h == 1) = false ∧ d3 = d2 ∧ bb = false)) := by
      cases wb
      ·exact ⟨d2, false, permIn_refl _ _ _, fun h => by (cases h), .inr (.inl ⟨rfl, rfl, rfl⟩)⟩
      ·cases wp
       ·exact ⟨d2, false, permIn_refl _ _ _, fun h => by (cases h), .inr (.inr (.inl ⟨rfl, rfl, rfl, rfl⟩))⟩
       ·cases hh : (h == 1)
        ·exact ⟨d2, false, permIn_refl _ _ _, fun h => by (cases h), .inr (.inr (.inr ⟨rfl, rfl, rfl, rfl, rfl⟩))⟩
        ·obtain ⟨p1, p2⟩ := partialInsertionSort_holds (lt := lt) hS d2 a b (by omega) b2 B2
         exact ⟨_, _, p1, p2, .inl ⟨rfl, rfl, rfl, partIns_tie hl a b d2 (by omega) b2 hs2⟩⟩
     have b3 : b ≤ d3.size := by rw [s3.1]; exact b2
     have hs3 : d3.size < 2305843009213693952 := by rw [s3.1]; exact hs2
     have B3 : Below lt a b d3 := B2.perm b2 s3
     have P3 : PermIn a b d d3 := permIn_trans _ _ _ a b (permIn_trans _ _ _ a b s1 s2) s3
     cases bb with
     | true =>
      refine ⟨d3, iterN_inr ?_, P3, hsorted rfl⟩
      rcases hA with ⟨hw, hA1, hA2⟩ | ⟨hw, hA1, hA2⟩ <;> rcases hD with ⟨hw1, hw2, hD1, hD2⟩ | ⟨_, _, hD1⟩ | ⟨_, _, _, hD1⟩ | ⟨_, _, _, _, hD1⟩ <;> first | (cases hD1; done) | (rw [hw] at hw1; cases hw1; done) | skip
      subst hw hA1 hA2 hw2
      rcases hC with ⟨hC1, hC2, hC3, hC4⟩ | ⟨hC1, hC2, hC3, hC4⟩
      ·subst hC4
       simp (disch := omega) only [Option.bind_some, pdq0_s2, e0, h12', decide_false, cond_false, hl0', Bool.not_true, hcp, hC1, cond_true, hC2, w_pred', hC3, hD1, hD2]
      ·subst hC2 hC3 hC4
       simp only [Option.bind_some, pdq0_s2, e0, h12', decide_false, cond_false, hl0', Bool.not_true, hcp, hC1, cond_true, hD1, hD2]
     | false =>
      have hcond : (¬ (a : Int) > 0 ∨ ((a : Int) > 0 ∧ lt d3[a - 1]! d3[pivot]! = true)) ∨ ((a : Int) > 0 ∧ lt d3[a - 1]! d3[pivot]! = false) := by
       rcases Nat.eq_zero_or_pos a with h0 | h0
       ·exact .inl (.inl (by omega))
       ·cases hq : lt d3[a - 1]! d3[pivot]!
        ·exact .inr ⟨by omega, rfl⟩
        ·exact .inl (.inr ⟨by omega, rfl⟩)
      rcases hcond with hcond | ⟨hc0, hcond⟩
      ·-- partition
       have hpt := partition_tie hl a b pivot d3 hp1 hp2 b3 hs3
       generalize hx : Sort.partition lt d3 a b pivot = x at hpt
       obtain ⟨mid, ap, d4⟩ := x
       simp only at hpt
       obtain ⟨g1, g2, hs4, hBa, hBr, hleft, hright⟩ := round_part hS (partition_holds lt) hp1 hp2 b3 B3 hx
       have e1 : IntKind.i64.wrap ((mid : Int) - (a : Int)) = ((mid - a : Nat) : Int) := w_sub g1 (by omega)
       have e2 : IntKind.i64.wrap ((b : Int) - (mid : Int)) = ((b - mid : Nat) : Int) := w_sub (by omega) (by omega)
       have e3 : IntKind.i64.wrap ((mid : Int) + 1) = ((mid + 1 : Nat) : Int) := w_succ (by omega)
       have e4 : IntKind.i64.wrap (Int.tdiv ((b - a : Nat) : Int) (8 : Int)) = (((b - a) / 8 : Nat) : Int) := by
        rw [Int.tdiv_eq_ediv_of_nonneg (by omega)]
        rw [wrap64] <;> omega
       have e8 : ((8 : Int) != 0) = true := rfl
       by_cases hlt : mid - a < b - mid
       ·have hlt' : ((mid - a : Nat) : Int) < ((b - mid : Nat) : Int) := by omega
        obtain ⟨d5, r1, l1, l2⟩ := hrec a mid lim1 d4 (by omega) g1 (by omega) (by omega) (by omega) hBa
        obtain ⟨hBL, hfin⟩ := hleft _ l1 l2
        obtain ⟨d6, q1, q2, q3⟩ := ih (b - (mid + 1)) (by omega) (mid + 1) b lim1 (decide (((mid - a : Nat) : Int) ≥ (((b - a) / 8 : Nat) : Int))) ap d5 rfl (by omega) (by omega) (by rw [l1.1]; omega) (by rw [l1.1]; omega) (by omega) hBL n (by omega)
        obtain ⟨t1, t2⟩ := hfin _ q2 q3
        refine ⟨d6, (iterN_inl ?_).trans q1, permIn_trans _ _ _ a b P3 t1, t2⟩
        clear ih q1 q2 q3 t1 t2 hfin hleft hright hrec hsorted
        rcases hA with ⟨hw, hA1, hA2⟩ | ⟨hw, hA1, hA2⟩ <;> rcases hD with ⟨hw1, hw2, hD1, hD2⟩ | ⟨hw1, hD1, hD2⟩ | ⟨hw1, hw2, hD1, hD2⟩ | ⟨hw1, hw2, hD0, hD1, hD2⟩ <;> first | (rw [hw] at hw1; cases hw1; done) | skip
        all_goals rcases hC with ⟨hC1, hC2, hC3, hC4⟩ | ⟨hC1, hC2, hC3, hC4⟩
        all_goals rcases hcond with hcond | ⟨hc0, hcond⟩
        all_goals subst_vars
        all_goals simp (disch := omega) only [Option.bind_some, pdq0_s2, decide_true, decide_false, cond_false, cond_true, Bool.not_true, Bool.not_false, lk_at, w_pred', *]
       ·have hlt' : ¬ ((mid - a : Nat) : Int) < ((b - mid : Nat) : Int) := by omega
        obtain ⟨d5, r1, l1, l2⟩ := hrec (mid + 1) b lim1 d4 (by omega) (by omega) (by omega) (by omega) (by omega) hBr
        obtain ⟨hBL, hfin⟩ := hright _ l1 l2
        obtain ⟨d6, q1, q2, q3⟩ := ih (mid - a) (by omega) a mid lim1 (decide (((b - mid : Nat) : Int) ≥ (((b - a) / 8 : Nat) : Int))) ap d5 rfl (by omega) g1 (by rw [l1.1]; omega) (by rw [l1.1]; omega) (by omega) hBL n (by omega)
        obtain ⟨t1, t2⟩ := hfin _ q2 q3
        refine ⟨d6, (iterN_inl ?_).trans q1, permIn_trans _ _ _ a b P3 t1, t2⟩
        clear ih q1 q2 q3 t1 t2 hfin hleft hright hrec hsorted
        rcases hA with ⟨hw, hA1, hA2⟩ | ⟨hw, hA1, hA2⟩ <;> rcases hD with ⟨hw1, hw2, hD1, hD2⟩ | ⟨hw1, hD1, hD2⟩ | ⟨hw1, hw2, hD1, hD2⟩ | ⟨hw1, hw2, hD0, hD1, hD2⟩ <;> first | (rw [hw] at hw1; cases hw1; done) | skip
        all_goals rcases hC with ⟨hC1, hC2, hC3, hC4⟩ | ⟨hC1, hC2, hC3, hC4⟩
        all_goals rcases hcond with hcond | ⟨hc0, hcond⟩
        all_goals subst_vars
        all_goals simp (disch := omega) only [Option.bind_some, pdq0_s2, decide_true, decide_false, cond_false, cond_true, Bool.not_true, Bool.not_false, lk_at, w_pred', *]
      ·have hpe := partEq_tie hl a b pivot d3 hp1 hp2 b3 hs3
       generalize hx : partitionEqual lt d3 a b pivot = x at hpe
       obtain ⟨mid, d4⟩ := x
       simp only at hpe
       obtain ⟨g1, g2, hs4, hB4, hfin⟩ := round_eq hS (partitionEqual_holds lt) (by omega) hp1 hp2 b3 B3 hcond hx
       obtain ⟨d6, q1, q2, q3⟩ := ih (b - mid) (by omega) mid b lim1 wb wp d4 rfl (by omega) (by omega) (by omega) (by omega) (by omega) hB4 n (by omega)
       obtain ⟨t1, t2⟩ := hfin _ q2 q3
       refine ⟨d6, (iterN_inl ?_).trans q1, permIn_trans _ _ _ a b P3 t1, t2⟩
       clear ih q1 q2 q3 t1 t2 hfin hrec hsorted
       rcases hA with ⟨hw, hA1, hA2⟩ | ⟨hw, hA1, hA2⟩ <;> rcases hD with ⟨hw1, hw2, hD1, hD2⟩ | ⟨hw1, hD1, hD2⟩ | ⟨hw1, hw2, hD1, hD2⟩ | ⟨hw1, hw2, hD0, hD1, hD2⟩ <;> first | (rw [hw] at hw1; cases hw1; done) | skip
       all_goals rcases hC with ⟨hC1, hC2, hC3, hC4⟩ | ⟨hC1, hC2, hC3, hC4⟩
       all_goals subst_vars
       all_goals simp (disch := omega) only [Option.bind_some, pdq0_s2, decide_true, decide_false, cond_false, cond_true, Bool.not_true, Bool.not_false, lk_at, w_pred', *]
noncomputable def pdqN (less : α → α → Option (Unit × (Bool × Unit))) : Nat → List α → Int → Int → Int → Option (List α × Unit)
  | 0 => fun _ _ _ _ => none
  | k + 1 => pdq0 less (pdqN less k)
theorem pdqN_sorts (hS : SWO lt) : ∀ N, Sorts lt (pdqN less N) N
  | 0 => fun a b limit d h => by omega
  | N + 1 => fun a b limit d h hab hb hs hlim hB => by
   obtain ⟨d', h1, h2, h3⟩ := pdq_loop hl hS (pdqN_sorts hS N) _ a b limit true true d rfl (by omega) hab hb hs hlim hB fuelN (by have := fuelN_le; omega)
   exact ⟨d', by simp only [pdqN, pdq0, h1, Option.bind_some], h2, h3⟩
 omit [Inhabited α] in
theorem sortG_tie [Inhabited α] (hS : SWO lt) (ht : ∀ x y, lt x y = false → lt y x = false → x = y) (l : List α) (h : l.length < 2305843009213693952) (N : Nat) (hN : l.length < N) :
   sortG (pdqN less N) l = some (l.mergeSort (fun x y => !lt y x), ()) := by
  have hb : Sort.bitsLen l.length ≤ 61 := (bitsLen_le_iff l.length 61).2 h
  obtain ⟨d', h1, h2, h3⟩ := pdqN_sorts hl hS N 0 l.toArray.size (Sort.bitsLen l.length) l.toArray (by simpa using hN) (by omega) (by omega) (by simpa using h) (by omega) (.inl rfl)
  have h4 := sorted_unique_holds (lt := lt) hS ht l.toArray d' h2 h3
  have e0 : IntKind.u64.wrap (l.length : Int) = (l.length : Int) := wrapu64 (by omega) (by omega)
  simp only [List.size_toArray] at h1
  simp only [sortG, e0, bitsLen_tie l.length (by omega), Option.bind_some]
  have h1' : pdqN less N l (0 : Int) (l.length : Int) ((Sort.bitsLen l.length : Nat) : Int) = some (d'.toList, ()) := h1
  simp only [h1', Option.bind_some]
  rw [h4]
end Go.Vu.Srt
