/- The reference's normal lists. -/
import Derived.Test.YtfmhkcidechgdaaGreatVtPm1
set_option linter.unusedVariables false
set_option maxRecDepth 100000
namespace Go.Vt.Pk
open Go Go.Vt Go.Vt.Rm Go.Sort Go.Vt.Srt
theorem refClip_loop : ∀ (rest pre g : List Rg) (n : Nat), pre.length + rest.length ≤ 100000000 → g.length + rest.length ≤ 100000000 → rest.length < n →
    iterN (fun x => refClipped_s2 x.1 x.2.1 x.2.2.1) n (pre ++ rest, (g, (((pre.length : Nat) : Int), ()))) = some (g ++ clipL rest, ()) := by
  intro rest
  induction rest with
  | nil =>
    intro pre g n h1 h2 hn
    obtain ⟨n, rfl⟩ := succ_of hn
    refine iterN_inr ?_
    simp [refClipped_s2, clipL]
  | cons r rest ih =>
    intro pre g n h1 h2 hn
    simp only [List.length_cons] at h1 h2 hn
    obtain ⟨n, rfl⟩ := succ_of hn
    have hlt : ((pre.length : Nat) : Int) < ((pre ++ r :: rest).length : Int) := lt_mid
    have ew : IntKind.i64.wrap (((pre.length : Nat) : Int) + 1) = (((pre ++ [r]).length : Nat) : Int) := w_mid (by omega)
    have one : ∀ x : Rg, lk [x] (0 : Int) = some x := fun x => rfl
    have z0 : (0 : Int).toNat = 0 := rfl
    have s0 : ∀ x y : Rg, [x].set 0 y = [y] := fun x y => rfl
    by_cases hc : (clip1 r).1 ≤ (clip1 r).2
    · have e : g ++ clipL (r :: rest) = (g ++ [clip1 r]) ++ clipL rest := by
        simp [clipL, hc]
      have hs := ih (pre ++ [r]) (g ++ [clip1 r]) n (by simp; omega) (by simp; omega) (by omega)
      rw [e]
      rw [← app_mid] at hs
      refine (iterN_inl ?_).trans hs
      have hrm : roomOk (g.length + [clip1 r].length) 8 = true := room8 (by simp; omega)
      by_cases h3 : r.1 < 0 <;> by_cases h4 : r.2 > 1114111 <;>
        simp only [clip1, gt_iff_lt, h3, h4, if_true, if_false] at hc hrm ⊢ <;> simp only [gt_iff_lt] at h4 <;>
        simp only [refClipped_s2, hlt, decide_true, decide_false, cond_true, cond_false, lk_mid, Option.bind_some, h3, h4, hc, hrm, ew, gt_iff_lt]
    · have e : g ++ clipL (r :: rest) = g ++ clipL rest := by
        simp [clipL, hc]
      have hs := ih (pre ++ [r]) g n (by simp; omega) (by omega) (by omega)
      rw [e]
      rw [← app_mid] at hs
      refine (iterN_inl ?_).trans hs
      by_cases h3 : r.1 < 0 <;> by_cases h4 : r.2 > 1114111 <;>
        simp only [clip1, gt_iff_lt, h3, h4, if_true, if_false] at hc ⊢ <;> simp only [gt_iff_lt] at h4 <;>
        simp only [refClipped_s2, hlt, decide_true, decide_false, cond_true, cond_false, lk_mid, Option.bind_some, h3, h4, hc, ew, gt_iff_lt]
theorem refClipped_is (l : List Rg) (h : l.length ≤ 50000000) : refClipped l = some ((), (clipL l, ())) := by
  have h1 := refClip_loop l [] [] fuN (by simp; omega) (by simp; omega) (by have := fuN_le; omega)
  have h1' : iterN (fun x => refClipped_s2 x.1 x.2.1 x.2.2.1) fuN (l, (([] : List (Int × Int)), ((0 : Int), ()))) = some (clipL l, ()) := h1
  simp only [refClipped, h1', Option.bind_some]
def mrg : Nat → List Rg → List Rg → List Rg
  | 0, _, _ => []
  | n + 1, [], [] => []
  | n + 1, x :: a, [] => x :: mrg n a []
  | n + 1, [], y :: b => y :: mrg n [] b
  | n + 1, x :: a, y :: b => if x.1 ≤ y.1 then x :: mrg n a (y :: b) else y :: mrg n (x :: a) b
theorem mrg_loop : ∀ (k : Nat) (ra rb pa pb g : List Rg) (n : Nat), ra.length + rb.length ≤ k → pa.length + ra.length ≤ 100000000 → pb.length + rb.length ≤ 100000000 → g.length + ra.length + rb.length ≤ 300000000 → k < n →
    iterN (fun x => refSorted0_s8 x.1 x.2.1 x.2.2.1 x.2.2.2.1 x.2.2.2.2.1) n (pa ++ ra, (pb ++ rb, (g, (((pa.length : Nat) : Int), (((pb.length : Nat) : Int), ()))))) = some (g ++ mrg k ra rb, ()) := by
  intro k
  induction k with
  | zero =>
    intro ra rb pa pb g n hk h1 h2 h3 hn
    obtain ⟨n, rfl⟩ := succ_of hn
    have e1 : ra = [] := List.length_eq_zero_iff.1 (by omega)
    have e2 : rb = [] := List.length_eq_zero_iff.1 (by omega)
    subst e1; subst e2
    refine iterN_inr ?_
    simp [refSorted0_s8, mrg]
  | succ k ih =>
    intro ra rb pa pb g n hk h1 h2 h3 hn
    obtain ⟨n, rfl⟩ := succ_of (Nat.lt_of_le_of_lt (Nat.zero_le _) hn)
    cases ra with
    | nil =>
      cases rb with
      | nil =>
        refine iterN_inr ?_
        simp [refSorted0_s8, mrg]
      | cons y b =>
        simp only [List.length_cons, List.length_nil] at hk h1 h2 h3
        have na : ¬ ((pa.length : Nat) : Int) < ((pa ++ ([] : List Rg)).length : Int) := by simp
        have lb : ((pb.length : Nat) : Int) < ((pb ++ y :: b).length : Int) := lt_mid
        have nb : (((pb.length : Nat) : Int) == ((pb ++ y :: b).length : Int)) = false := by simp; omega
        have ew : IntKind.i64.wrap (((pb.length : Nat) : Int) + 1) = (((pb ++ [y]).length : Nat) : Int) := w_mid (by omega)
        have hrm : roomOk (g.length + [y].length) 8 = true := room8 (by simp; omega)
        have hs := ih [] b pa (pb ++ [y]) (g ++ [y]) n (by simp; omega) (by simp; omega) (by simp; omega) (by simp; omega) (by omega)
        rw [← app_mid (pre := pb)] at hs
        have e : (g ++ [y]) ++ mrg k [] b = g ++ mrg (k + 1) [] (y :: b) := by simp [mrg]
        rw [e] at hs
        refine (iterN_inl ?_).trans hs
        simp only [refSorted0_s8, na, lb, decide_true, decide_false, cond_true, cond_false, nb, Option.bind_some, lk_mid, hrm, ew]
    | cons x a =>
      simp only [List.length_cons] at hk h1 h3
      have la : ((pa.length : Nat) : Int) < ((pa ++ x :: a).length : Int) := lt_mid
      have ewa : IntKind.i64.wrap (((pa.length : Nat) : Int) + 1) = (((pa ++ [x]).length : Nat) : Int) := w_mid (by omega)
      have hrma : roomOk (g.length + [x].length) 8 = true := room8 (by simp; omega)
      cases rb with
      | nil =>
        have nb : (((pb.length : Nat) : Int) == ((pb ++ ([] : List Rg)).length : Int)) = true := by simp
        have hs := ih a [] (pa ++ [x]) pb (g ++ [x]) n (by simp only [List.length_nil] at hk ⊢; omega) (by simp; omega) h2 (by simp only [List.length_nil, List.length_append, List.length_cons] at h3 ⊢; omega) (by omega)
        rw [← app_mid (pre := pa)] at hs
        have e : (g ++ [x]) ++ mrg k a [] = g ++ mrg (k + 1) (x :: a) [] := by simp [mrg]
        rw [e] at hs
        refine (iterN_inl ?_).trans hs
        simp only [refSorted0_s8, la, decide_true, cond_true, nb, Option.bind_some, lk_mid, hrma, ewa]
      | cons y b =>
        simp only [List.length_cons] at hk h2 h3
        have nb : (((pb.length : Nat) : Int) == ((pb ++ y :: b).length : Int)) = false := by simp; omega
        have ewb : IntKind.i64.wrap (((pb.length : Nat) : Int) + 1) = (((pb ++ [y]).length : Nat) : Int) := w_mid (by omega)
        have hrmb : roomOk (g.length + [y].length) 8 = true := room8 (by simp; omega)
        by_cases hc : x.1 ≤ y.1
        · have hs := ih a (y :: b) (pa ++ [x]) pb (g ++ [x]) n (by simp; omega) (by simp; omega) (by simp; omega) (by simp; omega) (by omega)
          rw [← app_mid (pre := pa)] at hs
          have e : (g ++ [x]) ++ mrg k a (y :: b) = g ++ mrg (k + 1) (x :: a) (y :: b) := by simp [mrg, hc]
          rw [e] at hs
          refine (iterN_inl ?_).trans hs
          simp only [refSorted0_s8, la, decide_true, cond_true, cond_false, nb, Option.bind_some, lk_mid, hc, hrma, ewa]
        · have hs := ih (x :: a) b pa (pb ++ [y]) (g ++ [y]) n (by simp; omega) (by simp; omega) (by simp; omega) (by simp; omega) (by omega)
          rw [← app_mid (pre := pb)] at hs
          have e : (g ++ [y]) ++ mrg k (x :: a) b = g ++ mrg (k + 1) (x :: a) (y :: b) := by simp [mrg, hc]
          rw [e] at hs
          refine (iterN_inl ?_).trans hs
          simp only [refSorted0_s8, la, decide_true, decide_false, cond_true, cond_false, nb, Option.bind_some, lk_mid, hc, hrmb, ewb]
theorem mrg_spec : ∀ (k : Nat) (a b : List Rg), a.length + b.length ≤ k → SortedLo a → SortedLo b → (mrg k a b).Perm (a ++ b) ∧ SortedLo (mrg k a b)
  | 0, a, b, h, _, _ => by
    have e1 : a = [] := List.length_eq_zero_iff.1 (by omega)
    have e2 : b = [] := List.length_eq_zero_iff.1 (by omega)
    subst e1; subst e2
    exact ⟨List.Perm.refl _, List.Pairwise.nil⟩
  | k + 1, [], [], h, _, _ => ⟨List.Perm.refl _, List.Pairwise.nil⟩
  | k + 1, x :: a, [], h, ha, hb => by
    obtain ⟨h1, h2⟩ := mrg_spec k a [] (by simp only [List.length_cons, List.length_nil] at h ⊢; omega) (List.pairwise_cons.1 ha).2 hb
    simp only [mrg]
    refine ⟨List.Perm.cons x h1, List.pairwise_cons.2 ⟨fun q hq => ?_, h2⟩⟩
    have := h1.mem_iff.1 hq
    simp at this
    exact (List.pairwise_cons.1 ha).1 q this
  | k + 1, [], y :: b, h, ha, hb => by
    obtain ⟨h1, h2⟩ := mrg_spec k [] b (by simp only [List.length_cons, List.length_nil] at h ⊢; omega) ha (List.pairwise_cons.1 hb).2
    simp only [mrg]
    refine ⟨List.Perm.cons y h1, List.pairwise_cons.2 ⟨fun q hq => ?_, h2⟩⟩
    have := h1.mem_iff.1 hq
    exact (List.pairwise_cons.1 hb).1 q this
  | k + 1, x :: a, y :: b, h, ha, hb => by
    simp only [mrg]
    simp only [List.length_cons] at h
    split
    · rename_i hc
      obtain ⟨h1, h2⟩ := mrg_spec k a (y :: b) (by simp; omega) (List.pairwise_cons.1 ha).2 hb
      refine ⟨List.Perm.cons x h1, List.pairwise_cons.2 ⟨fun q hq => ?_, h2⟩⟩
      rcases List.mem_append.1 (h1.mem_iff.1 hq) with hq | hq
      · exact (List.pairwise_cons.1 ha).1 q hq
      · rcases List.mem_cons.1 hq with rfl | hq
        · exact hc
        · exact Int.le_trans hc ((List.pairwise_cons.1 hb).1 q hq)
    · rename_i hc
      obtain ⟨h1, h2⟩ := mrg_spec k (x :: a) b (by simp; omega) ha (List.pairwise_cons.1 hb).2
      refine ⟨(List.Perm.cons y h1).trans List.perm_middle.symm, List.pairwise_cons.2 ⟨fun q hq => ?_, h2⟩⟩
      rcases List.mem_append.1 (h1.mem_iff.1 hq) with hq | hq
      · rcases List.mem_cons.1 hq with rfl | hq
        · show y.1 ≤ q.1; omega
        · have := (List.pairwise_cons.1 ha).1 q hq; omega
      · exact (List.pairwise_cons.1 hb).1 q hq
theorem refSortedN_is : ∀ (k : Nat) (l : List Rg), l.length < k → l.length ≤ 50000000 → ∃ s, refSortedN k l = some ((), (s, ())) ∧ s.Perm l ∧ SortedLo s
  | 0, l, h, _ => by omega
  | k + 1, l, h, hl => by
    by_cases h2 : l.length < 2
    · have h2' : (l.length : Int) < (2 : Int) := by omega
      refine ⟨l, ?_, List.Perm.refl _, ?_⟩
      · simp only [refSortedN, refSorted0, h2', decide_true, cond_true, Option.bind_some]
      · match l, h2 with
        | [], _ => exact List.Pairwise.nil
        | [x], _ => exact List.pairwise_singleton _ _
        | x :: y :: l, h2 => simp at h2; omega
    · have h2' : ¬ (l.length : Int) < (2 : Int) := by omega
      have hq : IntKind.i64.wrap (Int.tdiv (l.length : Int) (2 : Int)) = ((l.length / 2 : Nat) : Int) := by
        rw [wrap64]
        · exact (Int.ofNat_tdiv _ _).symm
        · rw [show Int.tdiv (l.length : Int) (2 : Int) = ((l.length / 2 : Nat) : Int) from (Int.ofNat_tdiv _ _).symm]; omega
        · rw [show Int.tdiv (l.length : Int) (2 : Int) = ((l.length / 2 : Nat) : Int) from (Int.ofNat_tdiv _ _).symm]; omega
      have i1 : inB (0 : Int) ((l.length / 2 : Nat) : Int) l.length = true := by
        simp only [inB, Bool.and_eq_true, decide_eq_true_eq]; omega
      have i2 : inB ((l.length / 2 : Nat) : Int) (l.length : Int) l.length = true := by
        simp only [inB, Bool.and_eq_true, decide_eq_true_eq]; omega
      have c1 : cut l (0 : Int) ((l.length / 2 : Nat) : Int) = l.take (l.length / 2) := by
        have e1 : (((l.length / 2 : Nat) : Int) - (0 : Int)).toNat = l.length / 2 := by omega
        simp only [cut, e1, Int.toNat_zero, List.drop_zero]
      have c2 : cut l ((l.length / 2 : Nat) : Int) (l.length : Int) = l.drop (l.length / 2) := by
        have e1 : ((l.length : Int) - ((l.length / 2 : Nat) : Int)).toNat = l.length - l.length / 2 := by omega
        simp only [cut, Int.toNat_natCast, e1]
        rw [List.take_of_length_le (by simp)]
      obtain ⟨s1, h3, h4, h5⟩ := refSortedN_is k (l.take (l.length / 2)) (by simp; omega) (by simp; omega)
      obtain ⟨s2, h6, h7, h8⟩ := refSortedN_is k (l.drop (l.length / 2)) (by simp; omega) (by simp; omega)
      have l1 := h4.length_eq
      have l2 := h7.length_eq
      simp only [List.length_take, List.length_drop] at l1 l2
      have h9 := mrg_loop (s1.length + s2.length) s1 s2 [] [] [] fuN (Nat.le_refl _) (by simp; omega) (by simp; omega) (by simp; omega) (by have := fuN_le; omega)
      have h9' : iterN (fun x => refSorted0_s8 x.1 x.2.1 x.2.2.1 x.2.2.2.1 x.2.2.2.2.1) fuN (s1, (s2, (([] : List (Int × Int)), ((0 : Int), ((0 : Int), ()))))) = some (mrg (s1.length + s2.length) s1 s2, ()) := h9
      obtain ⟨h10, h11⟩ := mrg_spec (s1.length + s2.length) s1 s2 (Nat.le_refl _) h5 h8
      have n2 : ((2 : Int) != 0) = true := rfl
      refine ⟨_, ?_, h10.trans ?_, h11⟩
      · simp only [refSortedN, refSorted0, h2', decide_false, cond_false, cond_true, Option.bind_some, n2, hq, i1, i2, c1, c2, h3, h6, h9']
      · refine (h4.append h7).trans ?_
        rw [List.take_append_drop]
theorem refSorted_is (l : List Rg) (h : l.length ≤ 50000000) : ∃ s, refSorted l = some ((), (s, ())) ∧ s.Perm l ∧ SortedLo s :=
  refSortedN_is (l.length + 1) l (Nat.lt_succ_self _) h
def joinR : Rg → List Rg → Rg × List Rg
  | z, [] => (z, [])
  | z, r :: l => if r.1 ≤ z.2 + 1 then joinR (z.1, if r.2 > z.2 then r.2 else z.2) l else (z, r :: l)
theorem joinR_length : ∀ (l : List Rg) (z : Rg), (joinR z l).2.length ≤ l.length
  | [], _ => Nat.le_refl _
  | r :: l, z => by
    simp only [joinR]
    split
    · have := joinR_length l (z.1, if r.2 > z.2 then r.2 else z.2); simp only [List.length_cons]; omega
    · exact Nat.le_refl _
theorem joinR_suffix : ∀ (l : List Rg) (z : Rg), ∃ p, l = p ++ (joinR z l).2
  | [], _ => ⟨[], rfl⟩
  | r :: l, z => by
    simp only [joinR]
    split
    · obtain ⟨p, hp⟩ := joinR_suffix l (z.1, if r.2 > z.2 then r.2 else z.2)
      refine ⟨r :: p, ?_⟩
      rw [List.cons_append, ← hp]
    · exact ⟨[], rfl⟩
theorem joinR_valid : ∀ (l : List Rg) (z : Rg), Valid (z :: l) → Valid ((joinR z l).1 :: (joinR z l).2)
  | [], z, h => h
  | r :: l, z, h => by
    have hz := h z (by simp)
    have hr := h r (by simp)
    simp only [joinR]
    split
    · refine joinR_valid l _ ?_
      intro q hq
      rcases List.mem_cons.1 hq with rfl | hq
      · simp only
        refine ⟨hz.1, ?_, ?_⟩ <;> split <;> omega
      · exact h q (by simp [hq])
    · exact h
theorem mergeC_join : ∀ (l : List Rg) (z : Rg), mergeC z l = (joinR z l).1 :: mergeL (joinR z l).2
  | [], z => rfl
  | r :: l, z => by
    simp only [mergeC, joinR]
    split
    · exact mergeC_join l _
    · rfl
theorem join_loop (g4 : List Rg) : ∀ (rest pre : List Rg) (z : Rg) (n : Nat), pre.length + rest.length ≤ 100000000 → Valid (z :: rest) → rest.length < n →
    ∃ p, pre ++ rest = p ++ (joinR z rest).2 ∧ iterN (fun x => refNorm_s10 x.1 x.2.1 x.2.2.1 x.2.2.2.1) n (pre ++ rest, (g4, (((pre.length : Nat) : Int), (z, ())))) =
      some (pre ++ rest, (g4, (((p.length : Nat) : Int), ((joinR z rest).1, ())))) := by
  intro rest
  induction rest with
  | nil =>
    intro pre z n h1 hv hn
    obtain ⟨n, rfl⟩ := succ_of hn
    refine ⟨pre, by simp [joinR], iterN_inr ?_⟩
    simp [refNorm_s10, joinR]
  | cons r rest ih =>
    intro pre z n h1 hv hn
    simp only [List.length_cons] at h1 hn
    obtain ⟨n, rfl⟩ := succ_of hn
    have hz := hv z (by simp)
    have hr := hv r (by simp)
    have hlt : ((pre.length : Nat) : Int) < ((pre ++ r :: rest).length : Int) := lt_mid
    have ew : IntKind.i64.wrap (((pre.length : Nat) : Int) + 1) = (((pre ++ [r]).length : Nat) : Int) := w_mid (by omega)
    have one : ∀ x : Rg, lk [x] (0 : Int) = some x := fun x => rfl
    have z0 : (0 : Int).toNat = 0 := rfl
    have s0 : ∀ x y : Rg, [x].set 0 y = [y] := fun x y => rfl
    have w1 : IntKind.i32.wrap (z.2 + 1) = z.2 + 1 := wrap32 (by omega) (by omega)
    by_cases hc : r.1 ≤ z.2 + 1
    · have hj : joinR z (r :: rest) = joinR (z.1, if r.2 > z.2 then r.2 else z.2) rest := by simp only [joinR, if_pos hc]
      rw [hj]
      have hv2 : Valid ((z.1, if r.2 > z.2 then r.2 else z.2) :: rest) := by
        intro q hq
        rcases List.mem_cons.1 hq with rfl | hq
        · simp only
          refine ⟨hz.1, ?_, ?_⟩ <;> split <;> omega
        · exact hv q (by simp [hq])
      obtain ⟨p, hp, hs⟩ := ih (pre ++ [r]) (z.1, if r.2 > z.2 then r.2 else z.2) n (by simp; omega) hv2 (by omega)
      rw [← app_mid] at hs hp
      refine ⟨p, hp, (iterN_inl ?_).trans hs⟩
      by_cases h4 : r.2 > z.2
      · simp only [refNorm_s10, hlt, decide_true, cond_true, lk_mid, Option.bind_some, w1, hc, h4, ew, if_true]
      · simp only [refNorm_s10, hlt, decide_true, decide_false, cond_true, cond_false, lk_mid, Option.bind_some, w1, hc, h4, ew, if_false]
    · have hj : joinR z (r :: rest) = (z, r :: rest) := by simp only [joinR, if_neg hc]
      rw [hj]
      refine ⟨pre, rfl, iterN_inr ?_⟩
      simp only [refNorm_s10, hlt, decide_true, decide_false, cond_true, cond_false, lk_mid, Option.bind_some, w1, hc]
theorem refMerge_loop : ∀ (k : Nat) (rest pre g : List Rg) (n : Nat), rest.length ≤ k → pre.length + rest.length ≤ 100000000 → g.length + rest.length ≤ 100000000 → Valid rest → k < n →
    iterN (fun x => refNorm_s4 x.1 x.2.1 x.2.2.1) n (pre ++ rest, (g, (((pre.length : Nat) : Int), ()))) = some (g ++ mergeL rest, ()) := by
  intro k
  induction k with
  | zero =>
    intro rest pre g n hk h1 h2 hv hn
    obtain ⟨n, rfl⟩ := succ_of hn
    have e1 : rest = [] := List.length_eq_zero_iff.1 (by omega)
    subst e1
    refine iterN_inr ?_
    simp [refNorm_s4, mergeL]
  | succ k ih =>
    intro rest pre g n hk h1 h2 hv hn
    obtain ⟨n, rfl⟩ := succ_of (Nat.lt_of_le_of_lt (Nat.zero_le _) hn)
    cases rest with
    | nil =>
      refine iterN_inr ?_
      simp [refNorm_s4, mergeL]
    | cons r rest =>
      simp only [List.length_cons] at hk h1 h2
      have hlt : ((pre.length : Nat) : Int) < ((pre ++ r :: rest).length : Int) := lt_mid
      have ew : IntKind.i64.wrap (((pre.length : Nat) : Int) + 1) = (((pre ++ [r]).length : Nat) : Int) := w_mid (by omega)
      obtain ⟨p, hp, hj⟩ := join_loop g rest (pre ++ [r]) r fuN (by simp; omega) hv (by have := fuN_le; omega)
      rw [← app_mid] at hj hp
      have hjl := joinR_length rest r
      have hjv := joinR_valid rest r hv
      have hpl : p.length + (joinR r rest).2.length = pre.length + rest.length + 1 := by
        have := congrArg List.length hp
        simp only [List.length_append, List.length_cons] at this
        omega
      have hs := ih (joinR r rest).2 p (g ++ [(joinR r rest).1]) n (by omega) (by omega) (by simp; omega) (fun q hq => hjv q (by simp [hq])) (by omega)
      have one : ∀ x : Rg, lk [x] (0 : Int) = some x := fun x => rfl
      have hrm : roomOk (g.length + [(joinR r rest).1].length) 8 = true := room8 (by simp; omega)
      have e : g ++ mergeL (r :: rest) = (g ++ [(joinR r rest).1]) ++ mergeL (joinR r rest).2 := by
        rw [show mergeL (r :: rest) = mergeC r rest from rfl, mergeC_join]; simp
      rw [e]
      rw [← hp] at hs
      refine (iterN_inl ?_).trans hs
      simp only [refNorm_s4, hlt, decide_true, cond_true, lk_mid, Option.bind_some, ew, hj, hrm]
theorem refNorm_is (l : List Rg) (h : l.length ≤ 50000000) : refNorm l = some ((), (norm l, ())) := by
  have h1 := refClipped_is l h
  have hcl := clip_length l
  obtain ⟨s, h2, h3, h4⟩ := refSorted_is (clipL l) (by omega)
  have hv : Valid s := fun r hr => clip_valid (h3.mem_iff.1 hr)
  have hl := h3.length_eq
  have h5 := refMerge_loop s.length s [] [] fuN (Nat.le_refl _) (by simp; omega) (by simp; omega) hv (by have := fuN_le; omega)
  have h5' : iterN (fun x => refNorm_s4 x.1 x.2.1 x.2.2.1) fuN (s, (([] : List (Int × Int)), ((0 : Int), ()))) = some (mergeL s, ()) := h5
  simp only [refNorm, h1, Option.bind_some, h2, h5', norm_eq h3 h4]
end Go.Vt.Pk
