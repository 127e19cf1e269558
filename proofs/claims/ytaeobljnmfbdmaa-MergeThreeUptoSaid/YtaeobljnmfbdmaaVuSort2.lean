/- The sort's values' functions are the plain sort's: partitions, insertions in part, reversal. -/
import Derived.Test.YtaeobljnmfbdmaaVuSort1
set_option linter.unusedVariables false
set_option maxRecDepth 100000
namespace Go.Vu.Srt
open Go Go.Vu Go.Sort
variable {α : Type} [Inhabited α]
variable {less : α → α → Option (Unit × (Bool × Unit))} {lt : α → α → Bool} (hl : ∀ x y, less x y = some ((), (lt x y, ())))
theorem reverse_tie0 : ∀ (k i j : Nat) (d : Array α), k = j - i → (i < j → j < d.size) → d.size < 2305843009213693952 → ∀ n, k < n →
   iterN (fun x => revRange_s2 (α := α) x.1 x.2.1 x.2.2.1) n (d.toList, ((i : Int), ((j : Int), ()))) = some ((reverseLoop i j d).toList, ()) := by
  intro k
  induction k using Nat.strongRecOn with
  | _ k ih =>
   intro i j d hk hb hs n hn
   obtain ⟨n, rfl⟩ := succ_of hn
   rw [reverseLoop]
   by_cases h1 : i < j
   ·have h1' : (i : Int) < (j : Int) := by omega
    have hj := hb h1
    rw [if_pos h1]
    refine (iterN_inl ?_).trans (ih ((j - 1) - (i + 1)) (by omega) (i + 1) (j - 1) (swp d i j) rfl (by rw [swp_size]; omega) (by rw [swp_size]; omega) n (by omega))
    simp (disch := omega) only [Option.bind_some, revRange_s2, h1', decide_true, cond_true, lk_at, lk_set, Int.toNat_natCast, swp_list, w_succ, w_pred']
   ·have h1' : ¬ (i : Int) < (j : Int) := by omega
    rw [if_neg h1]
    refine iterN_inr ?_
    simp only [Option.bind_some, revRange_s2, h1', decide_false, cond_false]
theorem revRange_tie (a b : Nat) (d : Array α) (h0 : 0 < b) (hb : b ≤ d.size) (hs : d.size < 2305843009213693952) :
   revRange d.toList (a : Int) (b : Int) = some ((reverseRange d a b).toList, ()) := by
  have h := reverse_tie0 (b - 1 - a) a (b - 1) d rfl (by omega) hs fuelN (by have := fuelN_le; omega)
  simp (disch := omega) only [Option.bind_some, revRange, w_pred', h, reverseRange]
 include hl
theorem scanUp_tie (a j : Nat) (d : Array α) (ha : a < d.size) (hj : j < d.size) (hs : d.size < 2305843009213693952) : ∀ (k i : Nat), k = j + 1 - i → i ≤ d.size → ∀ n, k < n →
   iterN (fun x => partition_s11 less x.1 x.2.1 x.2.2.1 x.2.2.2.1) n (d.toList, ((a : Int), ((i : Int), ((j : Int), ())))) =
    some (d.toList, ((a : Int), (((scanUp (fun x => lt x d[a]!) d j i : Nat) : Int), ((j : Int), ())))) := by
  intro k
  induction k using Nat.strongRecOn with
  | _ k ih =>
   intro i hk hi n hn
   obtain ⟨n, rfl⟩ := succ_of hn
   rw [scanUp]
   by_cases h1 : i ≤ j
   ·have h1' : (i : Int) ≤ (j : Int) := by omega
    cases h2 : lt d[i]! d[a]!
    ·rw [if_neg (by simp)]
     refine iterN_inr ?_
     simp (disch := omega) only [Option.bind_some, partition_s11, h1', h2, decide_true, cond_true, cond_false, lk_at, hl]
    ·rw [if_pos (by simp [h1])]
     refine (iterN_inl ?_).trans (ih (j + 1 - (i + 1)) (by omega) (i + 1) rfl (by omega) n (by omega))
     simp (disch := omega) only [Option.bind_some, partition_s11, h1', h2, decide_true, cond_true, lk_at, hl, w_succ]
   ·have h1' : ¬ (i : Int) ≤ (j : Int) := by omega
    rw [if_neg (by simp [h1])]
    refine iterN_inr ?_
    simp only [Option.bind_some, partition_s11, h1', decide_false, cond_false]
theorem scanDown_tie (a i : Nat) (d : Array α) (ha : a < d.size) (h0 : 0 < i) (hs : d.size < 2305843009213693952) : ∀ (j : Nat), j < d.size → ∀ n, j < n →
   iterN (fun x => partition_s23 less x.1 x.2.1 x.2.2.1 x.2.2.2.1) n (d.toList, ((a : Int), ((i : Int), ((j : Int), ())))) =
    some (d.toList, ((a : Int), ((i : Int), (((scanDown (fun x => !lt x d[a]!) d i j : Nat) : Int), ())))) := by
  intro j
  induction j with
  | zero =>
   intro hj n hn
   obtain ⟨n, rfl⟩ := succ_of hn
   have h1' : ¬ (i : Int) ≤ ((0 : Nat) : Int) := by omega
   refine iterN_inr ?_
   simp only [Option.bind_some, partition_s23, h1', decide_false, cond_false, scanDown]
  | succ j ih =>
   intro hj n hn
   obtain ⟨n, rfl⟩ := succ_of hn
   rw [scanDown]
   by_cases h1 : i ≤ j + 1
   ·have h1' : (i : Int) ≤ ((j + 1 : Nat) : Int) := by omega
    cases h2 : lt d[j + 1]! d[a]!
    ·rw [if_pos (by simp [h1])]
     refine (iterN_inl ?_).trans (ih (by omega) n (by omega))
     simp (disch := omega) only [Option.bind_some, partition_s23, h1', h2, decide_true, cond_true, lk_at, hl, w_pred, Bool.not_false]
    ·rw [if_neg (by simp)]
     refine iterN_inr ?_
     simp (disch := omega) only [Option.bind_some, partition_s23, h1', h2, decide_true, cond_true, cond_false, lk_at, hl, Bool.not_true]
   ·have h1' : ¬ (i : Int) ≤ ((j + 1 : Nat) : Int) := by omega
    rw [if_neg (by simp [h1])]
    refine iterN_inr ?_
    simp only [Option.bind_some, partition_s23, h1', decide_false, cond_false]
 omit hl in
theorem scanDown_ge (p : α → Bool) (d : Array α) (i : Nat) : ∀ j, i ≤ j + 1 → i ≤ scanDown p d i j + 1 := by
  intro j
  induction j with
  | zero => intro h; simpa [scanDown] using h
  | succ j ih =>
   intro h
   rw [scanDown]
   split
   ·rename_i h1
    simp only [Bool.and_eq_true, decide_eq_true_eq] at h1
    exact ih (by omega)
   ·omega
 omit hl in
theorem scanUp_le (p : α → Bool) (d : Array α) (j : Nat) : ∀ (k i : Nat), k = j + 1 - i → i ≤ j + 1 → scanUp p d j i ≤ j + 1 := by
  intro k
  induction k with
  | zero => intro i hk hi; rw [scanUp, if_neg (by simp; omega)]; exact hi
  | succ k ih =>
   intro i hk hi
   rw [scanUp]
   split
   ·rename_i h1
    simp only [Bool.and_eq_true, decide_eq_true_eq] at h1
    exact ih (i + 1) (by omega) (by omega)
   ·exact hi
 omit [Inhabited α] hl in
theorem s57_eq : @partition_s56 α less = @partition_s11 α less := rfl
 omit [Inhabited α] hl in
theorem s69_eq : @partition_s68 α less = @partition_s23 α less := rfl
 omit hl in
theorem scans_ne (p : α → Bool) (d : Array α) (i j : Nat) (h0 : 0 < i) (h : scanUp p d j i ≤ scanDown (fun x => !p x) d (scanUp p d j i) j) : scanUp p d j i ≠ scanDown (fun x => !p x) d (scanUp p d j i) j := by
  intro e
  have h1 := (scanUp_spec p d j _ i rfl)
  have h2 := (scanDown_spec (fun x => !p x) d (scanUp p d j i) j)
  have h3 := h1.2.2.2 (by omega)
  have h4 := h2.2.2.2 h (by omega)
  rw [← e, h3] at h4
  cases h4
theorem partLoop_tie (a : Nat) : ∀ (k i j : Nat) (d : Array α), k = j + 1 - i → a < i → i ≤ j + 1 → j < d.size → d.size < 2305843009213693952 → ∀ n, k < n →
   iterN (fun x => partition_s53 less x.1 x.2.1 x.2.2.1 x.2.2.2.1) n (d.toList, ((a : Int), ((i : Int), ((j : Int), ())))) =
    some ((partLoop lt a i j d).2.toList, ((a : Int), (((partLoop lt a i j d).1 : Nat) : Int), ())) := by
  intro k
  induction k using Nat.strongRecOn with
  | _ k ih =>
   intro i j d hk hai hij hj hs n hn
   obtain ⟨n, rfl⟩ := succ_of hn
   have hu := scanUp_tie hl a j d (by omega) hj hs _ i rfl (by omega) fuelN (by have := fuelN_le; omega)
   have hd := scanDown_tie hl a (scanUp (fun x => lt x d[a]!) d j i) d (by omega) (by have := scanUp_ge (fun x => lt x d[a]!) d j i; omega) hs j hj fuelN (by have := fuelN_le; omega)
   have g1 := scanUp_ge (fun x => lt x d[a]!) d j i
   have g2 := scanUp_le (fun x => lt x d[a]!) d j _ i rfl hij
   have g3 := scanDown_le (fun x => !lt x d[a]!) d (scanUp (fun x => lt x d[a]!) d j i) j
   have g4 := scanDown_ge (fun x => !lt x d[a]!) d (scanUp (fun x => lt x d[a]!) d j i) j g2
   have hgd := partLoop_guard (lt := lt) a i j d
   have hne := scans_ne (fun x => lt x d[a]!) d i j (by omega)
   rw [partLoop]
   generalize hi2 : scanUp (fun x => lt x d[a]!) d j i = i2 at *
   generalize hj2 : scanDown (fun x => !lt x d[a]!) d i2 j = j2 at *
   by_cases h1 : i2 > j2
   ·have h1' : (i2 : Int) > (j2 : Int) := by omega
    rw [if_pos h1]
    refine iterN_inr ?_
    simp only [Option.bind_some, partition_s53, s57_eq, s69_eq, hu, hd, h1', decide_true, cond_true]
   ·have h1' : ¬ (i2 : Int) > (j2 : Int) := by omega
    rw [if_neg h1, dif_pos (hgd h1)]
    have hj2 : 0 < j2 := by omega
    have hne' := hne (by omega)
    refine (iterN_inl ?_).trans (ih ((j2 - 1) + 1 - (i2 + 1)) (by omega) (i2 + 1) (j2 - 1) (swp d i2 j2) rfl (by omega) (by omega) (by rw [swp_size]; omega) (by rw [swp_size]; omega) n (by omega))
    simp (disch := omega) only [Option.bind_some, partition_s53, s57_eq, s69_eq, hu, hd, h1', decide_false, cond_false, lk_at, lk_set, Int.toNat_natCast, swp_list, w_succ, w_pred']
 omit hl in
theorem partLoop_size (lt : α → α → Bool) (a : Nat) : ∀ (k i j : Nat) (d : Array α), k = j + 1 - i → (partLoop lt a i j d).2.size = d.size := by
  intro k
  induction k using Nat.strongRecOn with
  | _ k ih =>
   intro i j d hk
   rw [partLoop]
   split
   ·rfl
   ·split
    ·rename_i h
     exact (ih _ (by rw [hk]; exact h) _ _ _ rfl).trans (swp_size _ _ _)
    ·rfl
 omit hl in
theorem partLoop_le (lt : α → α → Bool) (a : Nat) : ∀ (k i j : Nat) (d : Array α), k = j + 1 - i → (partLoop lt a i j d).1 ≤ j := by
  intro k
  induction k using Nat.strongRecOn with
  | _ k ih =>
   intro i j d hk
   rw [partLoop]
   have g3 := scanDown_le (fun x => !lt x d[a]!) d (scanUp (fun x => lt x d[a]!) d j i) j
   split
   ·exact g3
   ·split
    ·rename_i h
     have := ih _ (by rw [hk]; exact h) _ _ (swp d (scanUp (fun x => lt x d[a]!) d j i) (scanDown (fun x => !lt x d[a]!) d (scanUp (fun x => lt x d[a]!) d j i) j)) rfl
     omega
    ·exact g3
theorem partition_tie (a b pivot : Nat) (d : Array α) (h1 : a ≤ pivot) (h2 : pivot < b) (hb : b ≤ d.size) (hs : d.size < 2305843009213693952) :
   Srt.partition less d.toList (a : Int) (b : Int) (pivot : Int) = some ((Sort.partition lt d a b pivot).2.2.toList, ((((Sort.partition lt d a b pivot).1 : Nat) : Int), ((Sort.partition lt d a b pivot).2.1, ()))) := by
  have e0 : (swp d a pivot).size = d.size := swp_size _ _ _
  generalize hd1 : swp d a pivot = d1 at *
  have hu := scanUp_tie hl a (b - 1) d1 (by omega) (by omega) (by omega) _ (a + 1) rfl (by omega) fuelN (by have := fuelN_le; omega)
  have g1 := scanUp_ge (fun x => lt x d1[a]!) d1 (b - 1) (a + 1)
  have g2 := scanUp_le (fun x => lt x d1[a]!) d1 (b - 1) _ (a + 1) rfl (by omega)
  have hdn := scanDown_tie hl a (scanUp (fun x => lt x d1[a]!) d1 (b - 1) (a + 1)) d1 (by omega) (by omega) (by omega) (b - 1) (by omega) fuelN (by have := fuelN_le; omega)
  have g3 := scanDown_le (fun x => !lt x d1[a]!) d1 (scanUp (fun x => lt x d1[a]!) d1 (b - 1) (a + 1)) (b - 1)
  have g4 := scanDown_ge (fun x => !lt x d1[a]!) d1 (scanUp (fun x => lt x d1[a]!) d1 (b - 1) (a + 1)) (b - 1) g2
  have hne := scans_ne (fun x => lt x d1[a]!) d1 (a + 1) (b - 1) (by omega)
  simp only [Sort.partition, hd1]
  generalize hi2 : scanUp (fun x => lt x d1[a]!) d1 (b - 1) (a + 1) = i2 at *
  generalize hj2 : scanDown (fun x => !lt x d1[a]!) d1 i2 (b - 1) = j2 at *
  by_cases h3 : i2 > j2
  ·have h3' : (i2 : Int) > (j2 : Int) := by omega
   simp only [if_pos h3]
   simp (disch := omega) only [Option.bind_some, Srt.partition, lk_at, lk_set, Int.toNat_natCast, swp_list, hd1, w_succ, w_pred', hu, hdn, h3', decide_true, cond_true]
  ·have h3' : ¬ (i2 : Int) > (j2 : Int) := by omega
   simp only [if_neg h3]
   have hne' := hne (by omega)
   have hlp := partLoop_tie hl a _ (i2 + 1) (j2 - 1) (swp d1 i2 j2) rfl (by omega) (by omega) (by rw [swp_size]; omega) (by rw [swp_size]; omega) fuelN (by have := fuelN_le; omega)
   have hsz : (partLoop lt a (i2 + 1) (j2 - 1) (swp d1 i2 j2)).2.size = d.size := by rw [partLoop_size _ _ _ _ _ _ rfl, swp_size, e0]
   have hle := partLoop_le lt a _ (i2 + 1) (j2 - 1) (swp d1 i2 j2) rfl
   generalize hq : partLoop lt a (i2 + 1) (j2 - 1) (swp d1 i2 j2) = q at *
   obtain ⟨q1, q2⟩ := q
   simp only at hlp hsz hle ⊢
   simp (disch := omega) only [Option.bind_some, Srt.partition, lk_at, lk_set, Int.toNat_natCast, swp_list, hd1, w_succ, w_pred', hu, hdn, h3', decide_false, cond_false, hlp]
theorem scanUpE_tie (a j : Nat) (d : Array α) (ha : a < d.size) (hj : j < d.size) (hs : d.size < 2305843009213693952) : ∀ (k i : Nat), k = j + 1 - i → i ≤ d.size → ∀ n, k < n →
   iterN (fun x => partEq_s13 less x.1 x.2.1 x.2.2.1 x.2.2.2.1) n (d.toList, ((a : Int), ((i : Int), ((j : Int), ())))) =
    some (d.toList, ((a : Int), (((scanUp (fun x => !lt d[a]! x) d j i : Nat) : Int), ((j : Int), ())))) := by
  intro k
  induction k using Nat.strongRecOn with
  | _ k ih =>
   intro i hk hi n hn
   obtain ⟨n, rfl⟩ := succ_of hn
   rw [scanUp]
   by_cases h1 : i ≤ j
   ·have h1' : (i : Int) ≤ (j : Int) := by omega
    cases h2 : lt d[a]! d[i]!
    ·rw [if_pos (by simp [h1])]
     refine (iterN_inl ?_).trans (ih (j + 1 - (i + 1)) (by omega) (i + 1) rfl (by omega) n (by omega))
     simp (disch := omega) only [Option.bind_some, partEq_s13, h1', h2, decide_true, cond_true, lk_at, hl, w_succ, Bool.not_false]
    ·rw [if_neg (by simp)]
     refine iterN_inr ?_
     simp (disch := omega) only [Option.bind_some, partEq_s13, h1', h2, decide_true, cond_true, cond_false, lk_at, hl, Bool.not_true]
   ·have h1' : ¬ (i : Int) ≤ (j : Int) := by omega
    rw [if_neg (by simp [h1])]
    refine iterN_inr ?_
    simp only [Option.bind_some, partEq_s13, h1', decide_false, cond_false]
theorem scanDownE_tie (a i : Nat) (d : Array α) (ha : a < d.size) (h0 : 0 < i) (hs : d.size < 2305843009213693952) : ∀ (j : Nat), j < d.size → ∀ n, j < n →
   iterN (fun x => partEq_s25 less x.1 x.2.1 x.2.2.1 x.2.2.2.1) n (d.toList, ((a : Int), ((i : Int), ((j : Int), ())))) =
    some (d.toList, ((a : Int), ((i : Int), (((scanDown (fun x => lt d[a]! x) d i j : Nat) : Int), ())))) := by
  intro j
  induction j with
  | zero =>
   intro hj n hn
   obtain ⟨n, rfl⟩ := succ_of hn
   have h1' : ¬ (i : Int) ≤ ((0 : Nat) : Int) := by omega
   refine iterN_inr ?_
   simp only [Option.bind_some, partEq_s25, h1', decide_false, cond_false, scanDown]
  | succ j ih =>
   intro hj n hn
   obtain ⟨n, rfl⟩ := succ_of hn
   rw [scanDown]
   by_cases h1 : i ≤ j + 1
   ·have h1' : (i : Int) ≤ ((j + 1 : Nat) : Int) := by omega
    cases h2 : lt d[a]! d[j + 1]!
    ·rw [if_neg (by simp)]
     refine iterN_inr ?_
     simp (disch := omega) only [Option.bind_some, partEq_s25, h1', h2, decide_true, cond_true, cond_false, lk_at, hl]
    ·rw [if_pos (by simp [h1])]
     refine (iterN_inl ?_).trans (ih (by omega) n (by omega))
     simp (disch := omega) only [Option.bind_some, partEq_s25, h1', h2, decide_true, cond_true, lk_at, hl, w_pred]
   ·have h1' : ¬ (i : Int) ≤ ((j + 1 : Nat) : Int) := by omega
    rw [if_neg (by simp [h1])]
    refine iterN_inr ?_
    simp only [Option.bind_some, partEq_s25, h1', decide_false, cond_false]
theorem partEqLoop_tie (a : Nat) : ∀ (k i j : Nat) (d : Array α), k = j + 1 - i → a < i → i ≤ j + 1 → j < d.size → d.size < 2305843009213693952 → ∀ n, k < n →
   iterN (fun x => partEq_s10 less x.1 x.2.1 x.2.2.1 x.2.2.2.1) n (d.toList, ((a : Int), ((i : Int), ((j : Int), ())))) =
    some ((partEqLoop lt a i j d).2.toList, ((((partEqLoop lt a i j d).1 : Nat) : Int), ())) := by
  intro k
  induction k using Nat.strongRecOn with
  | _ k ih =>
   intro i j d hk hai hij hj hs n hn
   obtain ⟨n, rfl⟩ := succ_of hn
   have hu := scanUpE_tie hl a j d (by omega) hj hs _ i rfl (by omega) fuelN (by have := fuelN_le; omega)
   have hd := scanDownE_tie hl a (scanUp (fun x => !lt d[a]! x) d j i) d (by omega) (by have := scanUp_ge (fun x => !lt d[a]! x) d j i; omega) hs j hj fuelN (by have := fuelN_le; omega)
   have g1 := scanUp_ge (fun x => !lt d[a]! x) d j i
   have g2 := scanUp_le (fun x => !lt d[a]! x) d j _ i rfl hij
   have g3 := scanDown_le (fun x => lt d[a]! x) d (scanUp (fun x => !lt d[a]! x) d j i) j
   have g4 := scanDown_ge (fun x => lt d[a]! x) d (scanUp (fun x => !lt d[a]! x) d j i) j g2
   have hgd := partEqLoop_guard (lt := lt) a i j d
   have hne := scans_ne (fun x => !lt d[a]! x) d i j (by omega)
   simp only [Bool.not_not] at hne
   rw [partEqLoop]
   generalize hi2 : scanUp (fun x => !lt d[a]! x) d j i = i2 at *
   generalize hj2 : scanDown (fun x => lt d[a]! x) d i2 j = j2 at *
   by_cases h1 : i2 > j2
   ·have h1' : (i2 : Int) > (j2 : Int) := by omega
    rw [if_pos h1]
    refine iterN_inr ?_
    simp only [Option.bind_some, partEq_s10, hu, hd, h1', decide_true, cond_true]
   ·have h1' : ¬ (i2 : Int) > (j2 : Int) := by omega
    rw [if_neg h1, dif_pos (hgd h1)]
    have hj2 : 0 < j2 := by omega
    have hne' := hne (by omega)
    refine (iterN_inl ?_).trans (ih ((j2 - 1) + 1 - (i2 + 1)) (by omega) (i2 + 1) (j2 - 1) (swp d i2 j2) rfl (by omega) (by omega) (by rw [swp_size]; omega) (by rw [swp_size]; omega) n (by omega))
    simp (disch := omega) only [Option.bind_some, partEq_s10, hu, hd, h1', decide_false, cond_false, lk_at, lk_set, Int.toNat_natCast, swp_list, w_succ, w_pred']
theorem partEq_tie (a b pivot : Nat) (d : Array α) (h1 : a ≤ pivot) (h2 : pivot < b) (hb : b ≤ d.size) (hs : d.size < 2305843009213693952) :
   partEq less d.toList (a : Int) (b : Int) (pivot : Int) = some ((partitionEqual lt d a b pivot).2.toList, ((((partitionEqual lt d a b pivot).1 : Nat) : Int), ())) := by
  have e0 : (swp d a pivot).size = d.size := swp_size _ _ _
  have h := partEqLoop_tie hl a _ (a + 1) (b - 1) (swp d a pivot) rfl (by omega) (by omega) (by omega) (by omega) fuelN (by have := fuelN_le; omega)
  simp (disch := omega) only [Option.bind_some, partEq, lk_at, lk_set, Int.toNat_natCast, swp_list, w_succ, w_pred', h, partitionEqual]
end Go.Vu.Srt
