/- The sort's values' functions are the plain sort's: insertion. -/
import Derived.Test.YtaeobljnmfbdmaaVuSortT
import Derived.Sort.AssemblyPlain
set_option linter.unusedVariables false
set_option maxRecDepth 100000
namespace Go.Vu.Srt
open Go Go.Vu Go.Sort
theorem wrap64 {x : Int} (h1 : -9223372036854775808 ≤ x) (h2 : x < 9223372036854775808) : IntKind.i64.wrap x = x := by
  simp only [IntKind.wrap, IntKind.signed, IntKind.bits]
  simp
  omega
theorem wrapu64 {x : Int} (h1 : 0 ≤ x) (h2 : x < 18446744073709551616) : IntKind.u64.wrap x = x := by
  simp only [IntKind.wrap, IntKind.signed, IntKind.bits]
  simp
  omega
theorem w_pred {j : Nat} (h : j < 4611686018427387905) : IntKind.i64.wrap (((j + 1 : Nat) : Int) - 1) = (j : Int) := by rw [wrap64] <;> omega
theorem w_pred' {j : Nat} (h0 : 0 < j) (h : j < 4611686018427387905) : IntKind.i64.wrap ((j : Int) - 1) = ((j - 1 : Nat) : Int) := by rw [wrap64] <;> omega
theorem w_succ {j : Nat} (h : j < 9223372036854775807) : IntKind.i64.wrap ((j : Int) + 1) = ((j + 1 : Nat) : Int) := by rw [wrap64] <;> omega
theorem w_add {i j : Nat} (h : i + j < 9223372036854775807) : IntKind.i64.wrap ((i : Int) + (j : Int)) = ((i + j : Nat) : Int) := by rw [wrap64] <;> omega
theorem w_sub {i j : Nat} (h0 : j ≤ i) (h : i < 9223372036854775807) : IntKind.i64.wrap ((i : Int) - (j : Int)) = ((i - j : Nat) : Int) := by rw [wrap64] <;> omega
theorem w_dbl {i : Nat} (h : i < 4611686018427387904) : IntKind.i64.wrap (2 * (i : Int)) = ((2 * i : Nat) : Int) := by rw [wrap64] <;> omega
variable {α : Type} [Inhabited α]
theorem lk_at {d : Array α} {i : Nat} (h : i < d.size) : lk d.toList (i : Int) = some d[i]! := by
  unfold lk
  rw [if_pos (by omega)]
  simp [h]
theorem lk_set {d : Array α} {i j : Nat} {x : α} (h : j < d.size) : lk (d.toList.set i x) (j : Int) = some (d.setIfInBounds i x)[j]! := by
  rw [← Array.toList_setIfInBounds, lk_at (by simpa using h)]
theorem swp_list (d : Array α) (i j : Nat) : (d.toList.set i d[j]!).set j d[i]! = (swp d i j).toList := by
  simp [swp, Array.toList_setIfInBounds]
theorem swp_size (d : Array α) (i j : Nat) : (swp d i j).size = d.size := by simp [swp]
theorem iterN_inl {X Y : Type} {f : X → Option (X ⊕ Y)} {n : Nat} {x y : X} (h : f x = some (.inl y)) : iterN f (n + 1) x = iterN f n y := by simp only [iterN, h]
theorem iterN_inr {X Y : Type} {f : X → Option (X ⊕ Y)} {n : Nat} {x : X} {y : Y} (h : f x = some (.inr y)) : iterN f (n + 1) x = some y := by simp only [iterN, h]
theorem succ_of {n k : Nat} (h : k < n) : ∃ m, n = m + 1 := ⟨n - 1, by omega⟩
variable {less : α → α → Option (Unit × (Bool × Unit))} {lt : α → α → Bool} (hl : ∀ x y, less x y = some ((), (lt x y, ())))
theorem insInner_size (lt : α → α → Bool) (a : Nat) : ∀ (j : Nat) (d : Array α), (insInner lt a j d).size = d.size := by
  intro j
  induction j with
  | zero => intro d; rfl
  | succ j ih =>
   intro d
   simp only [insInner]
   split
   ·rw [ih, swp_size]
   ·rfl
theorem siftDown_size (lt : α → α → Bool) (hi first : Nat) : ∀ (k root : Nat) (d : Array α), k = hi - root → (Sort.siftDown lt hi first root d).size = d.size := by
  intro k
  induction k using Nat.strongRecOn with
  | _ k ih =>
   intro root d hk
   rw [Sort.siftDown]
   split
   ·rfl
   ·split
    ·split
     ·rfl
     ·split
      ·rw [ih (hi - (2 * root + 2)) (by omega) _ _ rfl, swp_size]
      ·rfl
    ·split
     ·rfl
     ·rw [ih (hi - (2 * root + 1)) (by omega) _ _ rfl, swp_size]
 include hl
theorem insInner_tie (a : Nat) (b i : Int) : ∀ (j : Nat) (d : Array α), j < d.size → d.size < 4611686018427387904 → ∀ n, j < n →
   iterN (fun x => insSort_s7 less x.1 x.2.1 x.2.2.1 x.2.2.2.1 x.2.2.2.2.1) n (d.toList, ((a : Int), (b, (i, ((j : Int), ()))))) = some ((insInner lt a j d).toList, ((a : Int), (b, (i, ())))) := by
  intro j
  induction j with
  | zero =>
   intro d hj hs n hn
   obtain ⟨n, rfl⟩ := succ_of hn
   have h0 : ¬ ((0 : Nat) : Int) > (a : Int) := by omega
   refine iterN_inr ?_
   simp only [Option.bind_some, insSort_s7, insInner, h0, decide_false, cond_false]
  | succ j ih =>
   intro d hj hs n hn
   obtain ⟨n, rfl⟩ := succ_of hn
   simp only [insInner]
   by_cases h1 : j + 1 > a
   ·have h1' : ((j + 1 : Nat) : Int) > (a : Int) := by omega
    cases h2 : lt d[j + 1]! d[j]!
    ·refine iterN_inr ?_
     simp (disch := omega) only [Option.bind_some, insSort_s7, h1, h1', h2, decide_true, cond_true, w_pred, lk_at, hl, cond_false, Bool.and_false, if_false, Bool.false_eq_true]
    ·rw [show (decide (j + 1 > a) && true) = true by simp [h1], if_pos rfl]
     refine (iterN_inl ?_).trans (ih (swp d (j + 1) j) (by rw [swp_size]; omega) (by rw [swp_size]; omega) n (by omega))
     simp (disch := omega) only [Option.bind_some, insSort_s7, h1', h2, decide_true, cond_true, w_pred, lk_at, lk_set, hl, Int.toNat_natCast, swp_list]
   ·have h1' : ¬ ((j + 1 : Nat) : Int) > (a : Int) := by omega
    refine iterN_inr ?_
    simp only [Option.bind_some, insSort_s7, h1, h1', decide_false, cond_false, Bool.false_and, if_false, Bool.false_eq_true]
theorem insOuter_tie (a b : Nat) : ∀ (k i : Nat) (d : Array α), k = b - i → b ≤ d.size → d.size < 4611686018427387904 → i ≤ d.size → ∀ n, k < n →
   iterN (fun x => insSort_s2 less x.1 x.2.1 x.2.2.1 x.2.2.2.1) n (d.toList, ((a : Int), ((b : Int), ((i : Int), ())))) = some ((insOuter lt a b i d).toList, ()) := by
  intro k
  induction k with
  | zero =>
   intro i d hk hb hs hi n hn
   obtain ⟨n, rfl⟩ := succ_of hn
   have h0 : ¬ (i : Int) < (b : Int) := by omega
   rw [insOuter]
   refine iterN_inr ?_
   simp only [Option.bind_some, insSort_s2, h0, show ¬ i < b by omega, decide_false, cond_false, if_false]
  | succ k ih =>
   intro i d hk hb hs hi n hn
   obtain ⟨n, rfl⟩ := succ_of hn
   have h0 : (i : Int) < (b : Int) := by omega
   rw [insOuter, if_pos (show i < b by omega)]
   have hin := insInner_tie hl a (b : Int) (i : Int) i d (by omega) hs fuelN (by have := fuelN_le; omega)
   refine (iterN_inl ?_).trans (ih (i + 1) (insInner lt a i d) (by omega) (by rw [insInner_size]; omega) (by rw [insInner_size]; omega) (by rw [insInner_size]; omega) n (by omega))
   simp (disch := omega) only [Option.bind_some, insSort_s2, h0, decide_true, cond_true, hin, w_succ]
theorem insSort_tie (a b : Nat) (d : Array α) (hb : b ≤ d.size) (ha : a < d.size ∨ a = b) (hs : d.size < 4611686018427387904) :
   insSort less d.toList (a : Int) (b : Int) = some ((insertionSort lt d a b).toList, ()) := by
  by_cases hab : a < d.size
  ·have := insOuter_tie hl a b _ (a + 1) d rfl hb hs (by omega) fuelN (by have := fuelN_le; omega)
   simp (disch := omega) only [Option.bind_some, insSort, w_succ, this, insertionSort]
  ·have hab : a = b := by omega
   subst hab
   have h0 : ¬ ((a + 1 : Nat) : Int) < (a : Int) := by omega
   obtain ⟨m, hm⟩ := succ_of (show 0 < fuelN by have := fuelN_le; omega)
   have : iterN (fun x => insSort_s2 less x.1 x.2.1 x.2.2.1 x.2.2.2.1) fuelN (d.toList, ((a : Int), ((a : Int), (((a + 1 : Nat) : Int), ())))) = some (d.toList, ()) := by
    rw [hm]
    refine iterN_inr ?_
    simp only [Option.bind_some, insSort_s2, h0, decide_false, cond_false]
   simp (disch := omega) only [Option.bind_some, insSort, w_succ, this, insertionSort]
   rw [insOuter, if_neg (by omega)]
theorem siftDown_tie0 (hi first : Nat) : ∀ (k root : Nat) (d : Array α), k = hi - root → first + hi ≤ d.size → d.size < 2305843009213693952 → root ≤ hi → ∀ n, k < n →
   ∃ y, iterN (fun x => siftDown_s2 less x.1 x.2.1 x.2.2.1 x.2.2.2.1) n (d.toList, ((hi : Int), ((first : Int), ((root : Int), ())))) = some y ∧
    (y = .inl ((Sort.siftDown lt hi first root d).toList, ()) ∨ y = .inr ((Sort.siftDown lt hi first root d).toList, ())) := by
  intro k
  induction k using Nat.strongRecOn with
  | _ k ih =>
   intro root d hk hb hs hr n hn
   obtain ⟨n, rfl⟩ := succ_of hn
   rw [Sort.siftDown]
   by_cases h1 : 2 * root + 1 ≥ hi
   ·have h1' : ((2 * root + 1 : Nat) : Int) ≥ (hi : Int) := by omega
    refine ⟨_, iterN_inr ?_, .inl rfl⟩
    simp (disch := omega) only [Option.bind_some, siftDown_s2, w_dbl, w_succ, h1, h1', decide_true, cond_true, dite_true]
   ·have h1' : ¬ ((2 * root + 1 : Nat) : Int) ≥ (hi : Int) := by omega
    rw [dif_neg h1]
    have fin : ∀ c : Nat, c < hi → root < c →
      (lt d[first + root]! d[first + c]! = false → siftDown_s2 less d.toList (hi : Int) (first : Int) (root : Int) = some (.inr (.inr (d.toList, ())))) →
      (lt d[first + root]! d[first + c]! = true → siftDown_s2 less d.toList (hi : Int) (first : Int) (root : Int) = some (.inl ((swp d (first + root) (first + c)).toList, ((hi : Int), ((first : Int), ((c : Int), ())))))) →
      ∃ y, iterN (fun x => siftDown_s2 less x.1 x.2.1 x.2.2.1 x.2.2.2.1) (n + 1) (d.toList, ((hi : Int), ((first : Int), ((root : Int), ())))) = some y ∧
       ∀ z, (z = if (!lt d[first + root]! d[first + c]!) = true then d else Sort.siftDown lt hi first c (swp d (first + root) (first + c))) → (y = .inl (z.toList, ()) ∨ y = .inr (z.toList, ())) := by
     intro c hc1 hc2 hf ht
     cases h2 : lt d[first + root]! d[first + c]!
     ·exact ⟨_, iterN_inr (hf h2), fun z hz => .inr (by rw [hz]; simp)⟩
     ·obtain ⟨y, h3, h4⟩ := ih (hi - c) (by omega) c (swp d (first + root) (first + c)) rfl (by rw [swp_size]; omega) (by rw [swp_size]; omega) (by omega) n (by omega)
      exact ⟨y, (iterN_inl (ht h2)).trans h3, fun z hz => by rw [hz]; simpa using h4⟩
    by_cases h2 : 2 * root + 1 + 1 < hi
    ·have h2' : ((2 * root + 1 + 1 : Nat) : Int) < (hi : Int) := by omega
     cases h3 : lt d[first + (2 * root + 1)]! d[first + (2 * root + 1) + 1]!
     ·obtain ⟨y, hy, hz⟩ := fin (2 * root + 1) (by omega) (by omega)
       (fun h4 => by simp (disch := omega) only [Option.bind_some, siftDown_s2, w_dbl, w_succ, w_add, h1', h2', h3, h4, decide_true, decide_false, cond_true, cond_false, lk_at, hl, Bool.not_false])
       (fun h4 => by simp (disch := omega) only [Option.bind_some, siftDown_s2, w_dbl, w_succ, w_add, h1', h2', h3, h4, decide_true, decide_false, cond_true, cond_false, lk_at, lk_set, hl, Bool.not_true, Int.toNat_natCast, swp_list])
      refine ⟨y, hy, hz _ ?_⟩
      simp only [h2, decide_true, Bool.true_and, Bool.false_eq_true, if_false]
     ·obtain ⟨y, hy, hz⟩ := fin (2 * root + 1 + 1) (by omega) (by omega)
       (fun h4 => by simp (disch := omega) only [Option.bind_some, siftDown_s2, w_dbl, w_succ, w_add, h1', h2', h3, h4, decide_true, decide_false, cond_true, cond_false, lk_at, hl, Bool.not_false])
       (fun h4 => by simp (disch := omega) only [Option.bind_some, siftDown_s2, w_dbl, w_succ, w_add, h1', h2', h3, h4, decide_true, decide_false, cond_true, cond_false, lk_at, lk_set, hl, Bool.not_true, Int.toNat_natCast, swp_list])
      refine ⟨y, hy, hz _ ?_⟩
      simp only [h2, decide_true, Bool.true_and, if_true, dite_true]
    ·have h2' : ¬ ((2 * root + 1 + 1 : Nat) : Int) < (hi : Int) := by omega
     obtain ⟨y, hy, hz⟩ := fin (2 * root + 1) (by omega) (by omega)
      (fun h4 => by simp (disch := omega) only [Option.bind_some, siftDown_s2, w_dbl, w_succ, w_add, h1', h2', h4, decide_false, cond_true, cond_false, lk_at, hl, Bool.not_false])
      (fun h4 => by simp (disch := omega) only [Option.bind_some, siftDown_s2, w_dbl, w_succ, w_add, h1', h2', h4, decide_false, cond_false, lk_at, lk_set, hl, Bool.not_true, Int.toNat_natCast, swp_list])
     refine ⟨y, hy, hz _ ?_⟩
     simp only [h2, decide_false, Bool.false_and, Bool.false_eq_true, if_false]
theorem siftDown_tie (hi first root : Nat) (d : Array α) (hb : first + hi ≤ d.size) (hs : d.size < 2305843009213693952) (hr : root ≤ hi) :
   siftDown less d.toList (root : Int) (hi : Int) (first : Int) = some ((Sort.siftDown lt hi first root d).toList, ()) := by
  obtain ⟨y, h1, h2⟩ := siftDown_tie0 hl hi first _ root d rfl hb hs hr fuelN (by have := fuelN_le; omega)
  simp only [Option.bind_some, siftDown, h1]
  rcases h2 with rfl | rfl <;> rfl
theorem heapBuild_tie (first lo hi : Nat) : ∀ (k : Nat) (d : Array α), k ≤ hi + 1 → first + hi ≤ d.size → d.size < 2305843009213693952 → ∀ n, k < n →
   iterN (fun x => heapSort_s4 less x.1 x.2.1 x.2.2.1 x.2.2.2.1 x.2.2.2.2.1) n (d.toList, ((first : Int), ((lo : Int), ((hi : Int), ((k : Int) - 1, ()))))) =
    some ((heapBuild lt hi first k d).toList, ((first : Int), ((lo : Int), ((hi : Int), ())))) := by
  intro k
  induction k with
  | zero =>
   intro d hk hb hs n hn
   obtain ⟨n, rfl⟩ := succ_of hn
   refine iterN_inr ?_
   simp [heapSort_s4, heapBuild]
  | succ k ih =>
   intro d hk hb hs n hn
   obtain ⟨n, rfl⟩ := succ_of hn
   have e : ((k + 1 : Nat) : Int) - 1 = (k : Int) := by omega
   rw [e]
   refine (iterN_inl ?_).trans (ih (Sort.siftDown lt hi first k d) (by omega) (by rw [siftDown_size _ _ _ _ _ _ rfl]; omega) (by rw [siftDown_size _ _ _ _ _ _ rfl]; omega) n (by omega))
   have h0 : (k : Int) ≥ 0 := by omega
   have h1 := siftDown_tie hl hi first k d hb hs (by omega)
   have h2 : IntKind.i64.wrap ((k : Int) - 1) = (k : Int) - 1 := by rw [wrap64] <;> omega
   simp only [Option.bind_some, heapSort_s4, h0, decide_true, cond_true, h1, h2]
theorem heapPop_tie (first lo : Nat) (hlo : lo = 0) : ∀ (k : Nat) (d : Array α), first + k ≤ d.size → d.size < 2305843009213693952 → ∀ n, k < n →
   iterN (fun x => heapSort_s13 less x.1 x.2.1 x.2.2.1 x.2.2.2.1) n (d.toList, ((first : Int), ((lo : Int), ((k : Int) - 1, ())))) = some ((heapPop lt first k d).toList, ()) := by
  intro k
  induction k with
  | zero =>
   intro d hb hs n hn
   obtain ⟨n, rfl⟩ := succ_of hn
   refine iterN_inr ?_
   simp [heapSort_s13, heapPop]
  | succ k ih =>
   intro d hb hs n hn
   obtain ⟨n, rfl⟩ := succ_of hn
   have e : ((k + 1 : Nat) : Int) - 1 = (k : Int) := by omega
   rw [e]
   subst hlo
   refine (iterN_inl ?_).trans (ih (Sort.siftDown lt k first 0 (swp d first (first + k))) (by rw [siftDown_size _ _ _ _ _ _ rfl, swp_size]; omega) (by rw [siftDown_size _ _ _ _ _ _ rfl, swp_size]; omega) n (by omega))
   have h0 : (k : Int) ≥ 0 := by omega
   have h1 := siftDown_tie hl k first 0 (swp d first (first + k)) (by rw [swp_size]; omega) (by rw [swp_size]; omega) (by omega)
   have h2 : IntKind.i64.wrap ((k : Int) - 1) = (k : Int) - 1 := by rw [wrap64] <;> omega
   simp (disch := omega) only [Option.bind_some, heapSort_s13, h0, decide_true, cond_true, w_add, lk_at, lk_set, Int.toNat_natCast, swp_list, h1, h2]
 omit hl in
theorem heapBuild_size (lt : α → α → Bool) (hi first : Nat) : ∀ (k : Nat) (d : Array α), (heapBuild lt hi first k d).size = d.size := by
  intro k
  induction k with
  | zero => intro d; rfl
  | succ k ih => intro d; rw [heapBuild, ih, siftDown_size _ _ _ _ _ _ rfl]
theorem heapSort_tie (a b : Nat) (d : Array α) (hab : a ≤ b) (hb : b ≤ d.size) (hs : d.size < 2305843009213693952) :
   heapSort less d.toList (a : Int) (b : Int) = some ((Sort.heapSort lt d a b).toList, ()) := by
  have h1 := heapBuild_tie hl a 0 (b - a) ((b - a - 1) / 2 + 1) d (by omega) (by omega) hs fuelN (by have := fuelN_le; omega)
  have h2 := heapPop_tie hl a 0 rfl (b - a) (heapBuild lt (b - a) a ((b - a - 1) / 2 + 1) d) (by rw [heapBuild_size]; omega) (by rw [heapBuild_size]; omega) fuelN (by have := fuelN_le; omega)
  have e1 : IntKind.i64.wrap ((b : Int) - (a : Int)) = ((b - a : Nat) : Int) := w_sub hab (by omega)
  have e2 : IntKind.i64.wrap (((b - a : Nat) : Int) - 1) = ((b - a : Nat) : Int) - 1 := by rw [wrap64] <;> omega
  have e3 : IntKind.i64.wrap (Int.tdiv (((b - a : Nat) : Int) - 1) 2) = ((((b - a - 1) / 2 + 1 : Nat)) : Int) - 1 := by
   rcases Nat.eq_zero_or_pos (b - a) with h | h
   ·rw [h]; decide
   ·have : ((b - a : Nat) : Int) - 1 = ((b - a - 1 : Nat) : Int) := by omega
    rw [this, Int.tdiv_eq_ediv_of_nonneg (by omega)]
    rw [wrap64] <;> omega
  have e0 : ((0 : Nat) : Int) = (0 : Int) := rfl
  rw [e0] at h1 h2
  simp only [Option.bind_some, heapSort, e1, e2, e3, h1, h2, Sort.heapSort, show ((2 : Int) != 0) = true from rfl, cond_true]
end Go.Vu.Srt
