/- The reference, plainly told. -/
import Derived.Test.YtfklhbmicfammaaVsRm6
set_option linter.unusedVariables false
set_option maxRecDepth 100000
namespace Go.Vs.Rs
open Go Go.Vs Go.Vs.Rm Go.Sort Go.Vs.Srt

/- Same -/
theorem refSame_loop : ∀ (rest rest' pre pre' : List Rg) (n : Nat), pre.length = pre'.length → rest.length = rest'.length → pre.length + rest.length ≤ 100000000 → rest.length < n →
    iterN (fun x => refSame_s4 x.1.1 x.1.2.1 x.1.2.2.1) n ((pre ++ rest, (pre' ++ rest', (((pre.length : Nat) : Int), ()))), ()) =
      some (if rest = rest' then .inr ((), ()) else .inl ((false, ()), ())) := by
  intro rest
  induction rest with
  | nil =>
    intro rest' pre pre' n h1 h2 h3 hn
    obtain ⟨n, rfl⟩ := succ_of hn
    have : rest' = [] := List.length_eq_zero_iff.1 (by simpa using h2.symm)
    subst this
    refine iterN_inr ?_
    simp [refSame_s4]
  | cons r rest ih =>
    intro rest' pre pre' n h1 h2 h3 hn
    cases rest' with
    | nil => simp at h2
    | cons r' rest' =>
      simp only [List.length_cons, Nat.add_right_cancel_iff] at h2 h3 hn
      obtain ⟨n, rfl⟩ := succ_of hn
      have hlt : ((pre.length : Nat) : Int) < ((pre ++ r :: rest).length : Int) := lt_mid
      have ew : IntKind.i64.wrap (((pre.length : Nat) : Int) + 1) = (((pre ++ [r]).length : Nat) : Int) := w_mid (by omega)
      have hlk : lk (pre' ++ r' :: rest') ((pre.length : Nat) : Int) = some r' := by rw [h1]; exact lk_mid
      by_cases hc : r = r'
      · subst hc
        have hs := ih rest' (pre ++ [r]) (pre' ++ [r]) n (by simp [h1]) h2 (by simp; omega) (by omega)
        rw [← app_mid, ← app_mid] at hs
        have e : (r :: rest = r :: rest') ↔ rest = rest' := by simp
        simp only [e]
        refine (iterN_inl ?_).trans hs
        simp only [refSame_s4, hlt, decide_true, cond_true, cond_false, lk_mid, hlk, Option.bind_some, Bool.and_self, Bool.not_true, ew]
      · have e : ¬ (r :: rest = r' :: rest') := fun h => hc (List.cons.inj h).1
        rw [if_neg e]
        refine iterN_inr ?_
        have hd : (decide (r.1 = r'.1) && decide (r.2 = r'.2)) = false := by
          cases hb : (decide (r.1 = r'.1) && decide (r.2 = r'.2)) with
          | false => rfl
          | true =>
            simp only [Bool.and_eq_true, decide_eq_true_eq] at hb
            exact absurd (Prod.ext hb.1 hb.2) hc
        simp only [refSame_s4, hlt, decide_true, cond_true, lk_mid, hlk, Option.bind_some, hd, Bool.not_false]

theorem refSame_is (a b : List Rg) (h : a.length ≤ 50000000) : refSame a b = some ((), (decide (a = b), ())) := by
  by_cases hl : a.length = b.length
  · have h1 := refSame_loop a b [] [] fuelN rfl hl (by simp; omega) (by have := fuelN_le; omega)
    have h1' : iterN (fun x => refSame_s4 x.1.1 x.1.2.1 x.1.2.2.1) fuelN ((a, (b, ((0 : Int), ()))), ()) = some (if a = b then .inr ((), ()) else .inl ((false, ()), ())) := h1
    have hne : ((a.length : Int) != (b.length : Int)) = false := by simp [hl]
    simp only [refSame, hne, cond_false, Option.bind_some, h1']
    by_cases hab : a = b <;> simp [hab]
  · have hne : ((a.length : Int) != (b.length : Int)) = true := by simp; omega
    have hab : a ≠ b := fun e => hl (by rw [e])
    simp only [refSame, hne, cond_true, Option.bind_some]
    simp [hab]

/- clipped -/
theorem refClip_loop : ∀ (rest pre g : List Rg) (n : Nat), pre.length + rest.length ≤ 100000000 → g.length + rest.length ≤ 100000000 → rest.length < n →
    iterN (fun x => refClipped_s2 x.1.1 x.1.2.1 x.2.1) n ((pre ++ rest, (((pre.length : Nat) : Int), ())), (g, ())) = some ((), (g ++ clipL rest, ())) := by
  intro rest
  induction rest with
  | nil =>
    intro pre g n h1 h2 hn
    obtain ⟨n, rfl⟩ := succ_of hn
    refine iterN_inr ?_
    simp [refClipped_s2, clipL]
  | cons r rest ih =>
    intro pre g n h1 h2 hn
    simp only [List.length_cons] at h1 h2 hn
    obtain ⟨n, rfl⟩ := succ_of hn
    have hlt : ((pre.length : Nat) : Int) < ((pre ++ r :: rest).length : Int) := lt_mid
    have ew : IntKind.i64.wrap (((pre.length : Nat) : Int) + 1) = (((pre ++ [r]).length : Nat) : Int) := w_mid (by omega)
    have one : ∀ x : Rg, lk [x] (0 : Int) = some x := fun x => rfl
    have z0 : (0 : Int).toNat = 0 := rfl
    have s0 : ∀ x y : Rg, [x].set 0 y = [y] := fun x y => rfl
    by_cases hc : (clip1 r).1 ≤ (clip1 r).2
    · have e : g ++ clipL (r :: rest) = (g ++ [clip1 r]) ++ clipL rest := by
        simp [clipL, hc]
      have hs := ih (pre ++ [r]) (g ++ [clip1 r]) n (by simp; omega) (by simp; omega) (by omega)
      rw [e]
      rw [← app_mid] at hs
      refine (iterN_inl ?_).trans hs
      have hrm : roomOk (g.length + [clip1 r].length) 8 = true := room8 (by simp; omega)
      by_cases h3 : r.1 < 0 <;> by_cases h4 : r.2 > 1114111 <;>
        simp only [clip1, gt_iff_lt, h3, h4, if_true, if_false] at hc hrm ⊢ <;> simp only [gt_iff_lt] at h4 <;>
        simp only [refClipped_s2, hlt, decide_true, decide_false, cond_true, cond_false, lk_mid, Option.bind_some, h3, h4, one, z0, s0, hc, hrm, ew, gt_iff_lt]
    · have e : g ++ clipL (r :: rest) = g ++ clipL rest := by
        simp [clipL, hc]
      have hs := ih (pre ++ [r]) g n (by simp; omega) (by omega) (by omega)
      rw [e]
      rw [← app_mid] at hs
      refine (iterN_inl ?_).trans hs
      by_cases h3 : r.1 < 0 <;> by_cases h4 : r.2 > 1114111 <;>
        simp only [clip1, gt_iff_lt, h3, h4, if_true, if_false] at hc ⊢ <;> simp only [gt_iff_lt] at h4 <;>
        simp only [refClipped_s2, hlt, decide_true, decide_false, cond_true, cond_false, lk_mid, Option.bind_some, h3, h4, one, z0, s0, hc, ew, gt_iff_lt]
theorem refClipped_is (l : List Rg) (h : l.length ≤ 50000000) : refClipped l = some ((), (clipL l, ())) := by
  have h1 := refClip_loop l [] [] fuelN (by simp; omega) (by simp; omega) (by have := fuelN_le; omega)
  have h1' : iterN (fun x => refClipped_s2 x.1.1 x.1.2.1 x.2.1) fuelN ((l, ((0 : Int), ())), (([] : List (Int × Int)), ())) = some ((), (clipL l, ())) := h1
  simp only [refClipped, h1', Option.bind_some]

/- sorted -/
def mrg : Nat → List Rg → List Rg → List Rg
  | 0, _, _ => []
  | n + 1, [], [] => []
  | n + 1, x :: a, [] => x :: mrg n a []
  | n + 1, [], y :: b => y :: mrg n [] b
  | n + 1, x :: a, y :: b => if x.1 ≤ y.1 then x :: mrg n a (y :: b) else y :: mrg n (x :: a) b

theorem mrg_loop : ∀ (k : Nat) (ra rb pa pb g : List Rg) (n : Nat), ra.length + rb.length ≤ k → pa.length + ra.length ≤ 100000000 → pb.length + rb.length ≤ 100000000 → g.length + ra.length + rb.length ≤ 300000000 → k < n →
    iterN (fun x => refSorted0_s8 x.1.1 x.1.2.1 x.1.2.2.1 x.1.2.2.2.1 x.2.1) n ((pa ++ ra, (pb ++ rb, (((pa.length : Nat) : Int), (((pb.length : Nat) : Int), ())))), (g, ())) = some ((), (g ++ mrg k ra rb, ())) := by
  intro k
  induction k with
  | zero =>
    intro ra rb pa pb g n hk h1 h2 h3 hn
    obtain ⟨n, rfl⟩ := succ_of hn
    have e1 : ra = [] := List.length_eq_zero_iff.1 (by omega)
    have e2 : rb = [] := List.length_eq_zero_iff.1 (by omega)
    subst e1; subst e2
    refine iterN_inr ?_
    simp [refSorted0_s8, mrg]
  | succ k ih =>
    intro ra rb pa pb g n hk h1 h2 h3 hn
    obtain ⟨n, rfl⟩ := succ_of (Nat.lt_of_le_of_lt (Nat.zero_le _) hn)
    cases ra with
    | nil =>
      cases rb with
      | nil =>
        refine iterN_inr ?_
        simp [refSorted0_s8, mrg]
      | cons y b =>
        simp only [List.length_cons, List.length_nil] at hk h1 h2 h3
        have na : ¬ ((pa.length : Nat) : Int) < ((pa ++ ([] : List Rg)).length : Int) := by simp
        have lb : ((pb.length : Nat) : Int) < ((pb ++ y :: b).length : Int) := lt_mid
        have nb : (((pb.length : Nat) : Int) == ((pb ++ y :: b).length : Int)) = false := by simp; omega
        have ew : IntKind.i64.wrap (((pb.length : Nat) : Int) + 1) = (((pb ++ [y]).length : Nat) : Int) := w_mid (by omega)
        have hrm : roomOk (g.length + [y].length) 8 = true := room8 (by simp; omega)
        have hs := ih [] b pa (pb ++ [y]) (g ++ [y]) n (by simp; omega) (by simp; omega) (by simp; omega) (by simp; omega) (by omega)
        rw [← app_mid (pre := pb)] at hs
        have e : (g ++ [y]) ++ mrg k [] b = g ++ mrg (k + 1) [] (y :: b) := by simp [mrg]
        rw [e] at hs
        refine (iterN_inl ?_).trans hs
        simp only [refSorted0_s8, na, lb, decide_true, decide_false, cond_true, cond_false, nb, Option.bind_some, lk_mid, hrm, ew]
    | cons x a =>
      simp only [List.length_cons] at hk h1 h3
      have la : ((pa.length : Nat) : Int) < ((pa ++ x :: a).length : Int) := lt_mid
      have ewa : IntKind.i64.wrap (((pa.length : Nat) : Int) + 1) = (((pa ++ [x]).length : Nat) : Int) := w_mid (by omega)
      have hrma : roomOk (g.length + [x].length) 8 = true := room8 (by simp; omega)
      cases rb with
      | nil =>
        have nb : (((pb.length : Nat) : Int) == ((pb ++ ([] : List Rg)).length : Int)) = true := by simp
        have hs := ih a [] (pa ++ [x]) pb (g ++ [x]) n (by simp only [List.length_nil] at hk ⊢; omega) (by simp; omega) h2 (by simp only [List.length_nil, List.length_append, List.length_cons] at h3 ⊢; omega) (by omega)
        rw [← app_mid (pre := pa)] at hs
        have e : (g ++ [x]) ++ mrg k a [] = g ++ mrg (k + 1) (x :: a) [] := by simp [mrg]
        rw [e] at hs
        refine (iterN_inl ?_).trans hs
        simp only [refSorted0_s8, la, decide_true, cond_true, nb, Option.bind_some, lk_mid, hrma, ewa]
      | cons y b =>
        simp only [List.length_cons] at hk h2 h3
        have nb : (((pb.length : Nat) : Int) == ((pb ++ y :: b).length : Int)) = false := by simp; omega
        have ewb : IntKind.i64.wrap (((pb.length : Nat) : Int) + 1) = (((pb ++ [y]).length : Nat) : Int) := w_mid (by omega)
        have hrmb : roomOk (g.length + [y].length) 8 = true := room8 (by simp; omega)
        by_cases hc : x.1 ≤ y.1
        · have hs := ih a (y :: b) (pa ++ [x]) pb (g ++ [x]) n (by simp; omega) (by simp; omega) (by simp; omega) (by simp; omega) (by omega)
          rw [← app_mid (pre := pa)] at hs
          have e : (g ++ [x]) ++ mrg k a (y :: b) = g ++ mrg (k + 1) (x :: a) (y :: b) := by simp [mrg, hc]
          rw [e] at hs
          refine (iterN_inl ?_).trans hs
          simp only [refSorted0_s8, la, decide_true, cond_true, cond_false, nb, Option.bind_some, lk_mid, hc, hrma, ewa]
        · have hs := ih (x :: a) b pa (pb ++ [y]) (g ++ [y]) n (by simp; omega) (by simp; omega) (by simp; omega) (by simp; omega) (by omega)
          rw [← app_mid (pre := pb)] at hs
          have e : (g ++ [y]) ++ mrg k (x :: a) b = g ++ mrg (k + 1) (x :: a) (y :: b) := by simp [mrg, hc]
          rw [e] at hs
          refine (iterN_inl ?_).trans hs
          simp only [refSorted0_s8, la, decide_true, decide_false, cond_true, cond_false, nb, Option.bind_some, lk_mid, hc, hrmb, ewb]

theorem mrg_spec : ∀ (k : Nat) (a b : List Rg), a.length + b.length ≤ k → SortedLo a → SortedLo b → (mrg k a b).Perm (a ++ b) ∧ SortedLo (mrg k a b)
  | 0, a, b, h, _, _ => by
    have e1 : a = [] := List.length_eq_zero_iff.1 (by omega)
    have e2 : b = [] := List.length_eq_zero_iff.1 (by omega)
    subst e1; subst e2
    exact ⟨List.Perm.refl _, List.Pairwise.nil⟩
  | k + 1, [], [], h, _, _ => ⟨List.Perm.refl _, List.Pairwise.nil⟩
  | k + 1, x :: a, [], h, ha, hb => by
    obtain ⟨h1, h2⟩ := mrg_spec k a [] (by simp only [List.length_cons, List.length_nil] at h ⊢; omega) (List.pairwise_cons.1 ha).2 hb
    simp only [mrg]
    refine ⟨List.Perm.cons x h1, List.pairwise_cons.2 ⟨fun q hq => ?_, h2⟩⟩
    have := h1.mem_iff.1 hq
    simp at this
    exact (List.pairwise_cons.1 ha).1 q this
  | k + 1, [], y :: b, h, ha, hb => by
    obtain ⟨h1, h2⟩ := mrg_spec k [] b (by simp only [List.length_cons, List.length_nil] at h ⊢; omega) ha (List.pairwise_cons.1 hb).2
    simp only [mrg]
    refine ⟨List.Perm.cons y h1, List.pairwise_cons.2 ⟨fun q hq => ?_, h2⟩⟩
    have := h1.mem_iff.1 hq
    exact (List.pairwise_cons.1 hb).1 q this
  | k + 1, x :: a, y :: b, h, ha, hb => by
    simp only [mrg]
    simp only [List.length_cons] at h
    split
    · rename_i hc
      obtain ⟨h1, h2⟩ := mrg_spec k a (y :: b) (by simp; omega) (List.pairwise_cons.1 ha).2 hb
      refine ⟨List.Perm.cons x h1, List.pairwise_cons.2 ⟨fun q hq => ?_, h2⟩⟩
      rcases List.mem_append.1 (h1.mem_iff.1 hq) with hq | hq
      · exact (List.pairwise_cons.1 ha).1 q hq
      · rcases List.mem_cons.1 hq with rfl | hq
        · exact hc
        · exact Int.le_trans hc ((List.pairwise_cons.1 hb).1 q hq)
    · rename_i hc
      obtain ⟨h1, h2⟩ := mrg_spec k (x :: a) b (by simp; omega) ha (List.pairwise_cons.1 hb).2
      refine ⟨(List.Perm.cons y h1).trans List.perm_middle.symm, List.pairwise_cons.2 ⟨fun q hq => ?_, h2⟩⟩
      rcases List.mem_append.1 (h1.mem_iff.1 hq) with hq | hq
      · rcases List.mem_cons.1 hq with rfl | hq
        · show y.1 ≤ q.1; omega
        · have := (List.pairwise_cons.1 ha).1 q hq; omega
      · exact (List.pairwise_cons.1 hb).1 q hq

theorem refSortedN_is : ∀ (k : Nat) (l : List Rg), l.length < k → l.length ≤ 50000000 → ∃ s, refSortedN k l = some ((), (s, ())) ∧ s.Perm l ∧ SortedLo s
  | 0, l, h, _ => by omega
  | k + 1, l, h, hl => by
    by_cases h2 : l.length < 2
    · have h2' : (l.length : Int) < (2 : Int) := by omega
      refine ⟨l, ?_, List.Perm.refl _, ?_⟩
      · simp only [refSortedN, refSorted0, h2', decide_true, cond_true, Option.bind_some]
      · match l, h2 with
        | [], _ => exact List.Pairwise.nil
        | [x], _ => exact List.pairwise_singleton _ _
        | x :: y :: l, h2 => simp at h2; omega
    · have h2' : ¬ (l.length : Int) < (2 : Int) := by omega
      have hq : IntKind.i64.wrap (Int.tdiv (l.length : Int) (2 : Int)) = ((l.length / 2 : Nat) : Int) := by
        rw [wrap64]
        · exact (Int.ofNat_tdiv _ _).symm
        · rw [show Int.tdiv (l.length : Int) (2 : Int) = ((l.length / 2 : Nat) : Int) from (Int.ofNat_tdiv _ _).symm]; omega
        · rw [show Int.tdiv (l.length : Int) (2 : Int) = ((l.length / 2 : Nat) : Int) from (Int.ofNat_tdiv _ _).symm]; omega
      have i1 : inB (0 : Int) ((l.length / 2 : Nat) : Int) l.length = true := by
        simp only [inB, Bool.and_eq_true, decide_eq_true_eq]; omega
      have i2 : inB ((l.length / 2 : Nat) : Int) (l.length : Int) l.length = true := by
        simp only [inB, Bool.and_eq_true, decide_eq_true_eq]; omega
      have c1 : cut l (0 : Int) ((l.length / 2 : Nat) : Int) = l.take (l.length / 2) := by
        have e1 : (((l.length / 2 : Nat) : Int) - (0 : Int)).toNat = l.length / 2 := by omega
        simp only [cut, e1, Int.toNat_zero, List.drop_zero]
      have c2 : cut l ((l.length / 2 : Nat) : Int) (l.length : Int) = l.drop (l.length / 2) := by
        have e1 : ((l.length : Int) - ((l.length / 2 : Nat) : Int)).toNat = l.length - l.length / 2 := by omega
        simp only [cut, Int.toNat_natCast, e1]
        rw [List.take_of_length_le (by simp)]
      obtain ⟨s1, h3, h4, h5⟩ := refSortedN_is k (l.take (l.length / 2)) (by simp; omega) (by simp; omega)
      obtain ⟨s2, h6, h7, h8⟩ := refSortedN_is k (l.drop (l.length / 2)) (by simp; omega) (by simp; omega)
      have l1 := h4.length_eq
      have l2 := h7.length_eq
      simp only [List.length_take, List.length_drop] at l1 l2
      have h9 := mrg_loop (s1.length + s2.length) s1 s2 [] [] [] fuelN (Nat.le_refl _) (by simp; omega) (by simp; omega) (by simp; omega) (by have := fuelN_le; omega)
      have h9' : iterN (fun x => refSorted0_s8 x.1.1 x.1.2.1 x.1.2.2.1 x.1.2.2.2.1 x.2.1) fuelN ((s1, (s2, ((0 : Int), ((0 : Int), ())))), (([] : List (Int × Int)), ())) = some ((), (mrg (s1.length + s2.length) s1 s2, ())) := h9
      obtain ⟨h10, h11⟩ := mrg_spec (s1.length + s2.length) s1 s2 (Nat.le_refl _) h5 h8
      have n2 : ((2 : Int) != 0) = true := rfl
      refine ⟨_, ?_, h10.trans ?_, h11⟩
      · simp only [refSortedN, refSorted0, h2', decide_false, cond_false, cond_true, Option.bind_some, n2, hq, i1, i2, c1, c2, h3, h6, h9']
      · refine (h4.append h7).trans ?_
        rw [List.take_append_drop]
theorem refSorted_is (l : List Rg) (h : l.length ≤ 50000000) : ∃ s, refSorted l = some ((), (s, ())) ∧ s.Perm l ∧ SortedLo s :=
  refSortedN_is (l.length + 1) l (Nat.lt_succ_self _) h

end Go.Vs.Rs
