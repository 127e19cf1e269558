/- The sets of texts, by the program and by the reference, plainly told. -/
import Derived.Test.YtfmhkcidechgdaaGreatVtPk1
import Derived.Test.YtfmhkcidechgdaaGreatVtGm1
set_option linter.unusedVariables false
set_option maxRecDepth 100000
namespace Go.Vt.Pk
open Go Go.Vt Go.Vt.Rm Go.Sort Go.Vt.Srt
theorem fuN_le : 9223372036854775808 ≤ fuN := fuelN_le
theorem lk_mid {α : Type} {pre rest : List α} {x : α} : lk (pre ++ x :: rest) ((pre.length : Nat) : Int) = some x := by
  unfold lk
  rw [if_pos (by omega)]
  simp
theorem set_mid {α : Type} {o : List α} {z w : α} : (o ++ [z]).set o.length w = o ++ [w] := by simp
theorem room8 {n : Nat} (h : n ≤ 1000000000) : roomOk n 8 = true := by
  unfold roomOk
  simp only [decide_eq_true_eq]
  omega
theorem wrap32 {x : Int} (h1 : -2147483648 ≤ x) (h2 : x < 2147483648) : IntKind.i32.wrap x = x := by
  simp only [IntKind.wrap, IntKind.signed, IntKind.bits]
  simp
  omega
theorem app_mid {α : Type} {pre rest : List α} {x : α} : pre ++ x :: rest = (pre ++ [x]) ++ rest := by simp
theorem len_succ {α : Type} {pre : List α} {x : α} : (pre ++ [x]).length = pre.length + 1 := by simp
theorem lt_mid {α : Type} {pre rest : List α} {x : α} : ((pre.length : Nat) : Int) < ((pre ++ x :: rest).length : Int) := by simp; omega
theorem w_mid {α : Type} {pre : List α} {x : α} (h : pre.length ≤ 200000000) : IntKind.i64.wrap (((pre.length : Nat) : Int) + 1) = (((pre ++ [x]).length : Nat) : Int) := by
  rw [len_succ]
  exact w_succ (by omega)
theorem w_last {α : Type} {o : List α} {z : α} (h : o.length ≤ 200000000) : IntKind.i64.wrap ((((o ++ [z]).length : Nat) : Int) - 1) = ((o.length : Nat) : Int) := by
  rw [len_succ]
  exact w_pred (by omega)
theorem clip_loop : ∀ (rest pre g : List Rg) (n : Nat), pre.length + rest.length ≤ 100000000 → g.length + rest.length ≤ 100000000 → rest.length < n →
    iterN (fun x => rNorm_s3 x.1 x.2.1 x.2.2.1 x.2.2.2.1) n (g, (pre ++ rest, (((pre ++ rest).length : Int), (((pre.length : Nat) : Int), ())))) = some (g ++ clipL rest, ()) := by
  intro rest
  induction rest with
  | nil =>
    intro pre g n h1 h2 hn
    obtain ⟨n, rfl⟩ := succ_of hn
    refine iterN_inr ?_
    simp [rNorm_s3, clipL]
  | cons r rest ih =>
    intro pre g n h1 h2 hn
    simp only [List.length_cons] at h1 h2 hn
    obtain ⟨n, rfl⟩ := succ_of hn
    have hlt : ((pre.length : Nat) : Int) < ((pre ++ r :: rest).length : Int) := lt_mid
    have ew : IntKind.i64.wrap (((pre.length : Nat) : Int) + 1) = (((pre ++ [r]).length : Nat) : Int) := w_mid (by omega)
    by_cases hc : (clip1 r).1 ≤ (clip1 r).2
    · have e : g ++ clipL (r :: rest) = (g ++ [clip1 r]) ++ clipL rest := by
        simp [clipL, hc]
      have hs := ih (pre ++ [r]) (g ++ [clip1 r]) n (by simp; omega) (by simp; omega) (by omega)
      rw [e]
      rw [← app_mid] at hs
      refine (iterN_inl ?_).trans hs
      have hc' : (decide ((if (0 : Int) > r.1 then (0 : Int) else r.1) ≤ (if (1114111 : Int) < r.2 then (1114111 : Int) else r.2))) = true := by
        simp only [decide_eq_true_eq]; exact hc
      have hr : roomOk (g.length + [((if (0 : Int) > r.1 then (0 : Int) else r.1), (if (1114111 : Int) < r.2 then (1114111 : Int) else r.2))].length) 8 = true := room8 (by simp; omega)
      simp only [rNorm_s3, hlt, decide_true, cond_true, lk_mid, Option.bind_some, hc', hr, ew]
      rfl
    · have e : g ++ clipL (r :: rest) = g ++ clipL rest := by
        simp [clipL, hc]
      have hs := ih (pre ++ [r]) g n (by simp; omega) (by omega) (by omega)
      rw [e]
      rw [← app_mid] at hs
      refine (iterN_inl ?_).trans hs
      have hc' : (decide ((if (0 : Int) > r.1 then (0 : Int) else r.1) ≤ (if (1114111 : Int) < r.2 then (1114111 : Int) else r.2))) = false := by
        simp only [decide_eq_false_iff_not]; exact hc
      simp only [rNorm_s3, hlt, decide_true, cond_true, cond_false, lk_mid, Option.bind_some, hc', ew]
theorem merge_loop : ∀ (rest pre o : List Rg) (z : Rg) (n : Nat), pre.length + rest.length ≤ 100000000 → o.length + rest.length ≤ 100000000 → Valid (z :: rest) → rest.length < n →
    iterN (fun x => rNorm_s11 x.1 x.2.1 x.2.2.1 x.2.2.2.1) n (o ++ [z], (pre ++ rest, (((pre ++ rest).length : Int), (((pre.length : Nat) : Int), ())))) = some (o ++ mergeC z rest, ()) := by
  intro rest
  induction rest with
  | nil =>
    intro pre o z n h1 h2 hv hn
    obtain ⟨n, rfl⟩ := succ_of hn
    refine iterN_inr ?_
    simp [rNorm_s11, mergeC]
  | cons r rest ih =>
    intro pre o z n h1 h2 hv hn
    simp only [List.length_cons] at h1 h2 hn
    obtain ⟨n, rfl⟩ := succ_of hn
    have hz := hv z (by simp)
    have hr := hv r (by simp)
    have hlt : ((pre.length : Nat) : Int) < ((pre ++ r :: rest).length : Int) := lt_mid
    have ew : IntKind.i64.wrap (((pre.length : Nat) : Int) + 1) = (((pre ++ [r]).length : Nat) : Int) := w_mid (by omega)
    have hg0 : (((o ++ [z]).length : Nat) : Int) > 0 := by simp
    have el : IntKind.i64.wrap ((((o ++ [z]).length : Nat) : Int) - 1) = ((o.length : Nat) : Int) := w_last (by omega)
    have ez : IntKind.i32.wrap (z.2 + 1) = z.2 + 1 := wrap32 (by omega) (by omega)
    have hlk : lk (o ++ [z]) ((o.length : Nat) : Int) = some z := lk_mid
    simp only [mergeC]
    by_cases hc : r.1 ≤ z.2 + 1
    · rw [if_pos hc]
      have hs := ih (pre ++ [r]) o (z.1, if r.2 > z.2 then r.2 else z.2) n (by simp; omega) (by omega) (fun q hq => by
        rcases List.mem_cons.1 hq with rfl | hq
        · simp only
          refine ⟨hz.1, ?_, ?_⟩ <;> split <;> omega
        · exact hv q (by simp [hq])) (by omega)
      rw [← app_mid] at hs
      refine (iterN_inl ?_).trans hs
      simp only [rNorm_s11, hlt, decide_true, cond_true, lk_mid, Option.bind_some, hg0, el, hlk, ez, hc, Int.toNat_natCast, set_mid, ew]
    · rw [if_neg hc]
      have hs := ih (pre ++ [r]) (o ++ [z]) r n (by simp; omega) (by simp; omega) (fun q hq => hv q (by simp at hq ⊢; exact .inr hq)) (by omega)
      rw [show (pre ++ [r]) ++ rest = pre ++ r :: rest by simp] at hs
      have e : (o ++ [z]) ++ mergeC r rest = o ++ z :: mergeC r rest := by simp
      rw [e] at hs
      refine (iterN_inl ?_).trans hs
      have hrm : roomOk ((o ++ [z]).length + [r].length) 8 = true := room8 (by simp; omega)
      simp only [rNorm_s11, hlt, decide_true, decide_false, cond_true, cond_false, lk_mid, Option.bind_some, hg0, el, hlk, ez, hc, hrm, ew]
theorem merge_all (s : List Rg) (hs : s.length ≤ 50000000) (hv : Valid s) :
    iterN (fun x => rNorm_s11 x.1 x.2.1 x.2.2.1 x.2.2.2.1) fuN (([] : List (Int × Int)), (s, ((s.length : Int), ((0 : Int), ())))) = some (mergeL s, ()) := by
  cases s with
  | nil =>
    obtain ⟨n, hn⟩ := succ_of (show 0 < fuN by have := fuN_le; omega)
    rw [hn]
    refine iterN_inr ?_
    simp [rNorm_s11, mergeL]
  | cons r rest =>
    simp only [List.length_cons] at hs
    obtain ⟨n, hn⟩ := succ_of (show 0 < fuN by have := fuN_le; omega)
    have hn' : rest.length < n := by have := fuN_le; omega
    rw [hn]
    have h1 := merge_loop rest [r] [] r n (by simp; omega) (by simp; omega) hv hn'
    refine (iterN_inl ?_).trans h1
    have hlt : (0 : Int) < ((r :: rest).length : Int) := by simp
    have hl0 : lk (r :: rest) (0 : Int) = some r := rfl
    have ew : IntKind.i64.wrap ((0 : Int) + 1) = ((([r] : List Rg).length : Nat) : Int) := by show IntKind.i64.wrap ((0 : Int) + 1) = 1; decide
    have hrm : roomOk (([] : List (Int × Int)).length + [r].length) 8 = true := room8 (by simp)
    have hg0 : ¬ ((([] : List (Int × Int)).length : Nat) : Int) > 0 := by simp
    simp only [rNorm_s11, hlt, decide_true, decide_false, cond_true, cond_false, hl0, Option.bind_some, hg0, hrm, ew]
    rfl
theorem c_less_is (p q : Rg) : c_less p q = some ((), ((fun p q : Rg => decide (cmpv p.1 q.1 < 0)) p q, ())) := rfl
theorem cmpv_lt (x y : Int) : (cmpv x y < 0) ↔ x < y := by
  unfold cmpv
  split
  · constructor <;> intro _ <;> first | assumption | decide
  · split <;> constructor <;> intro h <;> omega
theorem c_swo : SWO (fun p q : Rg => decide (cmpv p.1 q.1 < 0)) where
  irrefl x := by simp [cmpv_lt]
  trans x y z h1 h2 := by simp [cmpv_lt] at *; omega
  ntrans x y z h1 h2 := by simp [cmpv_lt] at *; omega
theorem perm_of {α : Type} [Inhabited α] {d d' : Array α} (h : PermIn 0 d.size d d') : d'.toList.Perm d.toList := by
  obtain ⟨h1, _, h3⟩ := h
  have e1 : d.extract 0 d.size = d := by simp
  have e2 : d'.extract 0 d.size = d' := by rw [← h1]; simp
  rw [e1, e2] at h3
  exact h3
theorem sortF_spec (l : List Rg) (h : l.length ≤ 100000000) : ∃ s, sortF l = some (s, ()) ∧ s.Perm l ∧ SortedLo s := by
  have hb : Sort.bitsLen l.length ≤ 61 := (bitsLen_le_iff l.length 61).2 (by omega)
  obtain ⟨d', h1, h2, h3⟩ := pdqN_sorts c_less_is c_swo (l.length + 1) 0 l.toArray.size (Sort.bitsLen l.length) l.toArray (by simp) (by omega) (by omega) (by simp; omega) (by omega) (.inl rfl)
  have e0 : IntKind.u64.wrap (l.length : Int) = (l.length : Int) := wrapu64 (by omega) (by omega)
  simp only [List.size_toArray] at h1
  have h1' : Srt.pdqN c_less (l.length + 1) l (0 : Int) (l.length : Int) ((Sort.bitsLen l.length : Nat) : Int) = some (d'.toList, ()) := h1
  refine ⟨d'.toList, ?_, by simpa using perm_of h2, ?_⟩
  · simp only [sortF, sortG, e0, bitsLen_tie l.length (by omega), Option.bind_some, h1']
  · refine List.pairwise_iff_getElem.2 fun i j hi hj hij => ?_
    simp only [Array.length_toList] at hi hj
    have hz : d'.size = l.length := by have := h2.1; simpa using this
    have := h3 i j (by omega) hij (by simp; omega)
    simp only [decide_eq_false_iff_not, cmpv_lt] at this
    simp only [Array.getElem_toList]
    rw [getElem!_pos d' j hj, getElem!_pos d' i hi] at this
    omega
theorem rNorm_eq' (l : List Rg) (h : l.length ≤ 50000000) : rNorm l = some ((), (norm l, ())) := by
  have h1 := clip_loop l [] [] fuN (by simp; omega) (by simp; omega) (by have := fuN_le; omega)
  have hcl := clip_length l
  obtain ⟨s, h2, h3, h4⟩ := sortF_spec (clipL l) (by omega)
  have h5 := merge_all s (by rw [h3.length_eq]; omega) (fun r hr => clip_valid (h3.mem_iff.1 hr))
  simp only [List.nil_append, List.length_nil] at h1
  have h1' : iterN (fun x => rNorm_s3 x.1 x.2.1 x.2.2.1 x.2.2.2.1) fuN (([] : List (Int × Int)), (l, ((l.length : Int), ((0 : Int), ())))) = some (clipL l, ()) := h1
  simp only [rNorm, h1', Option.bind_some, h2, h5]
  rw [norm_eq h3 h4]
theorem slEqual_loop : ∀ (rest rest' pre pre' : List Rg) (n : Nat), pre.length = pre'.length → rest.length = rest'.length → pre.length + rest.length ≤ 100000000 → rest.length < n →
    iterN (fun x => slEqual_s4 x.1 x.2.1 x.2.2.1 x.2.2.2.1) n (pre ++ rest, (pre' ++ rest', (((pre ++ rest).length : Int), (((pre.length : Nat) : Int), ())))) =
      some (if rest = rest' then .inr () else .inl (false, ())) := by
  intro rest
  induction rest with
  | nil =>
    intro rest' pre pre' n h1 h2 h3 hn
    obtain ⟨n, rfl⟩ := succ_of hn
    have : rest' = [] := List.length_eq_zero_iff.1 (by simpa using h2.symm)
    subst this
    refine iterN_inr ?_
    simp [slEqual_s4]
  | cons r rest ih =>
    intro rest' pre pre' n h1 h2 h3 hn
    cases rest' with
    | nil => simp at h2
    | cons r' rest' =>
      simp only [List.length_cons, Nat.add_right_cancel_iff] at h2 h3 hn
      obtain ⟨n, rfl⟩ := succ_of hn
      have hlt : ((pre.length : Nat) : Int) < ((pre ++ r :: rest).length : Int) := lt_mid
      have ew : IntKind.i64.wrap (((pre.length : Nat) : Int) + 1) = (((pre ++ [r]).length : Nat) : Int) := w_mid (by omega)
      have hlk : lk (pre' ++ r' :: rest') ((pre.length : Nat) : Int) = some r' := by rw [h1]; exact lk_mid
      by_cases hc : r = r'
      · subst hc
        have hs := ih rest' (pre ++ [r]) (pre' ++ [r]) n (by simp [h1]) h2 (by simp; omega) (by omega)
        rw [← app_mid, ← app_mid] at hs
        have e : (r :: rest = r :: rest') ↔ rest = rest' := by simp
        simp only [e]
        refine (iterN_inl ?_).trans hs
        have hd : (decide (r.1 = r.1) && decide (r.2 = r.2)) = true := by simp
        simp only [slEqual_s4, hlt, decide_true, cond_true, lk_mid, hlk, Option.bind_some, ew]
        rfl
      · have e : ¬ (r :: rest = r' :: rest') := fun h => hc (List.cons.inj h).1
        rw [if_neg e]
        refine iterN_inr ?_
        have hd : (decide (r.1 = r'.1) && decide (r.2 = r'.2)) = false := by
          cases hb : (decide (r.1 = r'.1) && decide (r.2 = r'.2)) with
          | false => rfl
          | true =>
            simp only [Bool.and_eq_true, decide_eq_true_eq] at hb
            exact absurd (Prod.ext hb.1 hb.2) hc
        simp only [slEqual_s4, hlt, decide_true, cond_true, lk_mid, hlk, Option.bind_some, hd, Bool.not_false]
theorem slEqual_eq' (a b : List Rg) (h : a.length ≤ 50000000) : slEqual a b = some ((), (decide (a = b), ())) := by
  by_cases hl : a.length = b.length
  · have h1 := slEqual_loop a b [] [] fuN rfl hl (by simp; omega) (by have := fuN_le; omega)
    have h1' : iterN (fun x => slEqual_s4 x.1 x.2.1 x.2.2.1 x.2.2.2.1) fuN (a, (b, ((a.length : Int), ((0 : Int), ())))) = some (if a = b then .inr () else .inl (false, ())) := h1
    have hne : ((a.length : Int) != (b.length : Int)) = false := by simp [hl]
    simp only [slEqual, hne, cond_false, Option.bind_some, h1']
    by_cases hab : a = b <;> simp [hab]
  · have hne : ((a.length : Int) != (b.length : Int)) = true := by simp; omega
    have hab : a ≠ b := fun e => hl (by rw [e])
    simp only [slEqual, hne, cond_true, Option.bind_some]
    simp [hab]
theorem lk_idx {l : List Int} {i : Nat} {x : Int} (h : l[i]? = some x) : lk l (i : Int) = some x := by
  unfold lk
  rw [if_pos (by omega)]
  simpa using h
def has (l : List Rg) (x : Int) : Bool := l.any fun r => decide (r.1 ≤ x) && decide (x ≤ r.2)
theorem refSame_loop : ∀ (rest rest' pre pre' : List Rg) (n : Nat), pre.length = pre'.length → rest.length = rest'.length → pre.length + rest.length ≤ 100000000 → rest.length < n →
    iterN (fun x => refSame_s4 x.1 x.2.1 x.2.2.1) n (pre ++ rest, (pre' ++ rest', (((pre.length : Nat) : Int), ()))) =
      some (if rest = rest' then .inr () else .inl (false, ())) := by
  intro rest
  induction rest with
  | nil =>
    intro rest' pre pre' n h1 h2 h3 hn
    obtain ⟨n, rfl⟩ := succ_of hn
    have : rest' = [] := List.length_eq_zero_iff.1 (by simpa using h2.symm)
    subst this
    refine iterN_inr ?_
    simp [refSame_s4]
  | cons r rest ih =>
    intro rest' pre pre' n h1 h2 h3 hn
    cases rest' with
    | nil => simp at h2
    | cons r' rest' =>
      simp only [List.length_cons, Nat.add_right_cancel_iff] at h2 h3 hn
      obtain ⟨n, rfl⟩ := succ_of hn
      have hlt : ((pre.length : Nat) : Int) < ((pre ++ r :: rest).length : Int) := lt_mid
      have ew : IntKind.i64.wrap (((pre.length : Nat) : Int) + 1) = (((pre ++ [r]).length : Nat) : Int) := w_mid (by omega)
      have hlk : lk (pre' ++ r' :: rest') ((pre.length : Nat) : Int) = some r' := by rw [h1]; exact lk_mid
      by_cases hc : r = r'
      · subst hc
        have hs := ih rest' (pre ++ [r]) (pre' ++ [r]) n (by simp [h1]) h2 (by simp; omega) (by omega)
        rw [← app_mid, ← app_mid] at hs
        have e : (r :: rest = r :: rest') ↔ rest = rest' := by simp
        simp only [e]
        refine (iterN_inl ?_).trans hs
        simp only [refSame_s4, hlt, decide_true, cond_true, cond_false, lk_mid, hlk, Option.bind_some, Bool.and_self, Bool.not_true, ew]
      · have e : ¬ (r :: rest = r' :: rest') := fun h => hc (List.cons.inj h).1
        rw [if_neg e]
        refine iterN_inr ?_
        have hd : (decide (r.1 = r'.1) && decide (r.2 = r'.2)) = false := by
          cases hb : (decide (r.1 = r'.1) && decide (r.2 = r'.2)) with
          | false => rfl
          | true =>
            simp only [Bool.and_eq_true, decide_eq_true_eq] at hb
            exact absurd (Prod.ext hb.1 hb.2) hc
        simp only [refSame_s4, hlt, decide_true, cond_true, lk_mid, hlk, Option.bind_some, hd, Bool.not_false]
theorem refSame_is (a b : List Rg) (h : a.length ≤ 50000000) : refSame a b = some ((), (decide (a = b), ())) := by
  by_cases hl : a.length = b.length
  · have h1 := refSame_loop a b [] [] fuN rfl hl (by simp; omega) (by have := fuN_le; omega)
    have h1' : iterN (fun x => refSame_s4 x.1 x.2.1 x.2.2.1) fuN (a, (b, ((0 : Int), ()))) = some (if a = b then .inr () else .inl (false, ())) := h1
    have hne : ((a.length : Int) != (b.length : Int)) = false := by simp [hl]
    simp only [refSame, hne, cond_false, Option.bind_some, h1']
    by_cases hab : a = b <;> simp [hab]
  · have hne : ((a.length : Int) != (b.length : Int)) = true := by simp; omega
    have hab : a ≠ b := fun e => hl (by rw [e])
    simp only [refSame, hne, cond_true, Option.bind_some]
    simp [hab]
def hv (l : List Rg) (x : Int) : Bool := decide (0 ≤ x) && (decide (x ≤ 1114111) && has l x)
theorem index_loop (x L : Int) : ∀ (rest pre : List Rg) (n : Nat), pre.length + rest.length ≤ 100000000 → L = ((pre ++ rest).length : Int) → rest.length < n →
    ∃ y, iterN (fun x => indexFunc_s2 x.1 x.2.1 x.2.2.1 x.2.2.2.1) n (pre ++ rest, ((x, ()), (L, (((pre.length : Nat) : Int), ())))) = some y ∧
      ((has rest x = true ∧ ∃ i : Nat, y = .inl ((i : Int), ())) ∨ (has rest x = false ∧ y = .inr ())) := by
  intro rest
  induction rest with
  | nil =>
    intro pre n h1 hL hn
    obtain ⟨n, rfl⟩ := succ_of hn
    subst hL
    refine ⟨_, iterN_inr ?_, .inr ⟨rfl, rfl⟩⟩
    simp [indexFunc_s2]
  | cons r rest ih =>
    intro pre n h1 hL hn
    simp only [List.length_cons] at h1 hn
    obtain ⟨n, rfl⟩ := succ_of hn
    have hlt : ((pre.length : Nat) : Int) < L := by rw [hL]; exact lt_mid
    have ew : IntKind.i64.wrap (((pre.length : Nat) : Int) + 1) = (((pre ++ [r]).length : Nat) : Int) := w_mid (by omega)
    obtain ⟨y, h2, h3⟩ := ih (pre ++ [r]) n (by simp; omega) (by rw [hL]; simp) (by omega)
    rw [← app_mid] at h2
    have hf : hasF r x = some ((), (decide (r.1 ≤ x) && decide (x ≤ r.2), ())) := by
      by_cases hc : r.1 ≤ x <;> simp [hasF, hc]
    have hh : has (r :: rest) x = ((decide (r.1 ≤ x) && decide (x ≤ r.2)) || has rest x) := rfl
    cases hc : (decide (r.1 ≤ x) && decide (x ≤ r.2)) with
    | true =>
      rw [hc] at hf hh
      refine ⟨_, iterN_inr (y := .inl (((pre.length : Nat) : Int), ())) ?_, .inl ⟨by rw [hh]; rfl, _, rfl⟩⟩
      simp only [indexFunc_s2, hlt, decide_true, cond_true, lk_mid, Option.bind_some, hf]
    | false =>
      rw [hc] at hf hh
      refine ⟨y, (iterN_inl ?_).trans h2, by rw [hh]; exact h3⟩
      simp only [indexFunc_s2, hlt, decide_true, cond_true, cond_false, lk_mid, Option.bind_some, hf, ew]
theorem rHas_is (l : List Rg) (x : Int) (h : l.length ≤ 50000000) : rHas l x = some ((), (hv l x, ())) := by
  obtain ⟨y, h1, h2⟩ := index_loop x (l.length : Int) l [] fuN (by simp; omega) rfl (by have := fuN_le; omega)
  have h1' : iterN (fun x => indexFunc_s2 x.1 x.2.1 x.2.2.1 x.2.2.2.1) fuN (l, ((x, ()), ((l.length : Int), ((0 : Int), ())))) = some y := h1
  have hc : containsFunc l (x, ()) = some ((), (has l x, ())) := by
    rcases h2 with ⟨h2, i, rfl⟩ | ⟨h2, rfl⟩
    · have : (i : Int) ≥ 0 := by omega
      simp only [containsFunc, indexFunc, h1', Option.bind_some, h2, this, decide_true]
    · have : ¬ ((-1 : Int) ≥ 0) := by decide
      simp only [containsFunc, indexFunc, h1', Option.bind_some, h2, this, decide_false]
  unfold hv
  by_cases c1 : 0 ≤ x <;> by_cases c2 : x ≤ 1114111 <;> simp [rHas, c1, c2, hc]
theorem refHas_loop (x : Int) : ∀ (rest pre : List Rg) (n : Nat), pre.length + rest.length ≤ 100000000 → rest.length < n →
    iterN (fun x => refHas_s2 x.1 x.2.1 x.2.2.1) n (pre ++ rest, (x, (((pre.length : Nat) : Int), ()))) = some (if hv rest x = true then .inl (true, ()) else .inr ()) := by
  intro rest
  induction rest with
  | nil =>
    intro pre n h1 hn
    obtain ⟨n, rfl⟩ := succ_of hn
    refine iterN_inr ?_
    simp [refHas_s2, hv, has]
  | cons r rest ih =>
    intro pre n h1 hn
    simp only [List.length_cons] at h1 hn
    obtain ⟨n, rfl⟩ := succ_of hn
    have hlt : ((pre.length : Nat) : Int) < ((pre ++ r :: rest).length : Int) := lt_mid
    have ew : IntKind.i64.wrap (((pre.length : Nat) : Int) + 1) = (((pre ++ [r]).length : Nat) : Int) := w_mid (by omega)
    have hs := ih (pre ++ [r]) n (by simp; omega) (by omega)
    rw [← app_mid] at hs
    have hh : hv (r :: rest) x = ((decide (0 ≤ x) && (decide (x ≤ 1114111) && (decide (r.1 ≤ x) && decide (x ≤ r.2)))) || hv rest x) := by
      simp only [hv, show has (r :: rest) x = ((decide (r.1 ≤ x) && decide (x ≤ r.2)) || has rest x) from rfl]
      cases decide (0 ≤ x) <;> cases decide (x ≤ 1114111) <;> rfl
    by_cases hc : 0 ≤ x ∧ x ≤ 1114111 ∧ r.1 ≤ x ∧ x ≤ r.2
    · obtain ⟨c1, c2, c3, c4⟩ := hc
      have e : hv (r :: rest) x = true := by rw [hh]; simp [c1, c2, c3, c4]
      rw [e, if_pos rfl]
      refine iterN_inr ?_
      simp only [refHas_s2, hlt, decide_true, cond_true, lk_mid, Option.bind_some, ge_iff_le, c1, c2, c3, c4]
    · have e : hv (r :: rest) x = hv rest x := by
        rw [hh]
        have : (decide (0 ≤ x) && (decide (x ≤ 1114111) && (decide (r.1 ≤ x) && decide (x ≤ r.2)))) = false := by
          cases hb : (decide (0 ≤ x) && (decide (x ≤ 1114111) && (decide (r.1 ≤ x) && decide (x ≤ r.2)))) with
          | false => rfl
          | true => simp only [Bool.and_eq_true, decide_eq_true_eq] at hb; exact absurd hb hc
        rw [this]; rfl
      rw [e]
      refine (iterN_inl ?_).trans hs
      by_cases c1 : 0 ≤ x <;> by_cases c2 : x ≤ 1114111 <;> by_cases c3 : r.1 ≤ x <;> by_cases c4 : x ≤ r.2 <;>
        first
        | (simp only [refHas_s2, hlt, decide_true, decide_false, cond_true, cond_false, lk_mid, Option.bind_some, ge_iff_le, c1, c2, c3, c4, ew]; done)
        | exact absurd ⟨c1, c2, c3, c4⟩ hc
theorem refHas_is (l : List Rg) (x : Int) (h : l.length ≤ 50000000) : refHas l x = some ((), (hv l x, ())) := by
  have h1 := refHas_loop x l [] fuN (by simp; omega) (by have := fuN_le; omega)
  have h1' : iterN (fun x => refHas_s2 x.1 x.2.1 x.2.2.1) fuN (l, (x, ((0 : Int), ()))) = some (if hv l x = true then .inl (true, ()) else .inr ()) := h1
  cases hc : hv l x <;> simp [refHas, h1', hc]
def bd (c : Int) : Option (Int × List (Int × Int)) :=
  if c < 128 then some (c, [])
  else if c < 194 then none
  else if c < 224 then some (c - 192, [(128, 191)])
  else if c < 240 then some (c - 224, [(if c = 224 then 160 else 128, if c = 237 then 159 else 191), (128, 191)])
  else if c ≤ 244 then some (c - 240, [(if c = 240 then 144 else 128, if c = 244 then 143 else 191), (128, 191), (128, 191)])
  else none
def mt : List (Int × Int) → List Int → Nat
  | (lo, hi) :: bs, x :: xs => if lo ≤ x ∧ x ≤ hi then mt bs xs + 1 else 0
  | _, _ => 0
def vl (r : Int) : Nat → List Int → Int
  | k + 1, x :: xs => vl (r * 64 + x % 64) k xs
  | _, _ => r
def front : List Int → Int × Nat × Bool
  | [] => (0, 0, false)
  | c :: xs => match bd c with
    | none => (65533, 1, false)
    | some (r, bs) => if mt bs xs < bs.length then (65533, mt bs xs + 1, decide (mt bs xs = xs.length)) else (vl r bs.length xs, bs.length + 1, false)
def Byte (x : Int) : Prop := 0 ≤ x ∧ x < 256
def Bytes (l : List Int) : Prop := ∀ x ∈ l, Byte x
theorem byte_all {p : Int → Bool} (h : ((List.range 256).all fun c => p (c : Int)) = true) (x : Int) (hx : Byte x) : p x = true := by
  obtain ⟨n, rfl⟩ : ∃ n : Nat, x = (n : Int) := ⟨x.toNat, by have := hx.1; omega⟩
  exact List.all_eq_true.1 h n (List.mem_range.2 (by have := hx.2; omega))
def leadV (c : Int) : Int × (Int × (Int × (Int × Unit))) := match bd c with
  | none => (0, (0, (128, (191, ()))))
  | some (r, bs) => (((bs.length + 1 : Nat) : Int), (r, (((bs.head?).getD (128, 191)).1, (((bs.head?).getD (128, 191)).2, ()))))
theorem lead_is (c : Int) (hc : Byte c) : utfLead c = some ((), leadV c) :=
  of_decide_eq_true (byte_all (p := fun c => decide (utfLead c = some ((), leadV c))) (by kernel_rfl) c hc)
theorem bd_ok (c : Int) (hc : Byte c) : (match bd c with | none => True | some (r, bs) => 0 ≤ r ∧ r < 128 ∧ bs.length ≤ 3 ∧ (bs = [] ∨ r < 32) ∧ ∀ y ∈ bs.drop 1, y = (128, 191)) := by
  have h0 := hc.1; have h9 := hc.2
  by_cases h1 : c < 128
  · simp only [bd, if_pos h1]; exact ⟨by omega, by omega, by simp, by simp, by simp⟩
  by_cases h2 : c < 194
  · simp only [bd, if_neg h1, if_pos h2]
  by_cases h3 : c < 224
  · simp only [bd, if_neg h1, if_neg h2, if_pos h3]; exact ⟨by omega, by omega, by simp, .inr (by omega), by simp⟩
  by_cases h4 : c < 240
  · simp only [bd, if_neg h1, if_neg h2, if_neg h3, if_pos h4]; exact ⟨by omega, by omega, by simp, .inr (by omega), by simp⟩
  by_cases h5 : c ≤ 244
  · simp only [bd, if_neg h1, if_neg h2, if_neg h3, if_neg h4, if_pos h5]; exact ⟨by omega, by omega, by simp, .inr (by omega), by simp⟩
  · simp only [bd, if_neg h1, if_neg h2, if_neg h3, if_neg h4, if_neg h5]
theorem and63 (x : Int) (hx : Byte x) : IntKind.u8.wrap (((BitVec.ofInt IntKind.u8.bits x &&& BitVec.ofInt IntKind.u8.bits (63 : Int)).toNat : Int)) = x % 64 :=
  of_decide_eq_true (byte_all (p := fun x => decide (IntKind.u8.wrap (((BitVec.ofInt IntKind.u8.bits x &&& BitVec.ofInt IntKind.u8.bits (63 : Int)).toNat : Int)) = x % 64)) (by kernel_rfl) x hx)
theorem wrap32' {x : Int} (h1 : -2147483648 ≤ x) (h2 : x < 2147483648) : IntKind.i32.wrap x = x := by
  simp only [IntKind.wrap, IntKind.signed, IntKind.bits]
  simp
  omega
theorem or64 {r y : Int} (h0 : 0 ≤ r) (h1 : r < 16777216) (h2 : 0 ≤ y) (h3 : y < 64) : IntKind.i32.wrap (((BitVec.ofInt IntKind.i32.bits (r * 64) ||| BitVec.ofInt IntKind.i32.bits y).toNat : Int)) = r * 64 + y := by
  obtain ⟨a, rfl⟩ : ∃ a : Nat, r = (a : Int) := ⟨r.toNat, by omega⟩
  obtain ⟨b, rfl⟩ : ∃ b : Nat, y = (b : Int) := ⟨y.toNat, by omega⟩
  have e1 : ((a : Int) * 64) = ((a * 64 : Nat) : Int) := by omega
  rw [e1]
  show IntKind.i32.wrap (((BitVec.ofInt 32 ((a * 64 : Nat) : Int) ||| BitVec.ofInt 32 ((b : Nat) : Int)).toNat : Int)) = _
  simp only [BitVec.ofInt_natCast, BitVec.toNat_or, BitVec.toNat_ofNat]
  rw [Nat.mod_eq_of_lt (by omega), Nat.mod_eq_of_lt (by omega)]
  have e2 : a * 64 ||| b = a * 64 + b := by
    have := Nat.two_pow_add_eq_or_of_lt (i := 6) (b := b) (by omega) a
    rw [show (2 : Nat) ^ 6 = 64 from rfl] at this
    rw [Nat.mul_comm, this]
  rw [e2, wrap32' (by omega) (by omega)]
  omega
theorem one_loop (n : Nat) (hn : n ≤ 4) : ∀ (bs : List (Int × Int)) (xs pre : List Int) (r lo hi : Int) (k : Nat), Bytes xs → (∀ p ∈ bs.head?, p = (lo, hi)) → (∀ y ∈ bs.drop 1, y = ((128 : Int), (191 : Int))) → pre.length + bs.length = n → pre.length + xs.length < 4611686018427387904 → 0 ≤ r → (r + 1) * 64 ^ bs.length ≤ 1073741824 → bs.length < k →
    iterN (fun x => utfOne_s7 x.1 x.2.1 x.2.2.1 x.2.2.2.1 x.2.2.2.2.1 x.2.2.2.2.2.1) k (pre ++ xs, (r, ((n : Int), (lo, (hi, (((pre.length : Nat) : Int), ())))))) =
      some (if mt bs xs < bs.length then .inl (65533, (((pre.length + mt bs xs : Nat) : Int), (decide (mt bs xs = xs.length), ()))) else .inr (vl r bs.length xs, ((n : Int), ()))) := by
  intro bs
  induction bs with
  | nil =>
    intro xs pre r lo hi k hx h1 h2 h3 h4 hr0 hr1 hk
    obtain ⟨k, rfl⟩ := succ_of hk
    have hlt : ¬ ((pre.length : Nat) : Int) < (n : Int) := by simp at h3; omega
    refine iterN_inr ?_
    simp only [utfOne_s7, hlt, decide_false, cond_false, Option.bind_some, mt, List.length_nil, Nat.lt_irrefl, if_false, vl]
  | cons p bs ih =>
    intro xs pre r lo hi k hx h1 h2 h3 h4 hr0 hr1 hk
    obtain ⟨k, rfl⟩ := succ_of hk
    have hp : p = (lo, hi) := h1 p (by simp)
    subst hp
    simp only [List.length_cons] at h3 hr1 hk
    have hlt : ((pre.length : Nat) : Int) < (n : Int) := by omega
    cases xs with
    | nil =>
      have he : (((pre.length : Nat) : Int) == ((pre ++ ([] : List Int)).length : Int)) = true := by simp
      refine iterN_inr ?_
      simp only [utfOne_s7, hlt, decide_true, cond_true, Option.bind_some, he, mt, List.length_cons, List.length_nil, Nat.zero_lt_succ, if_true, Nat.add_zero]
    | cons x xs =>
      have hxb := hx x (by simp)
      have he : (((pre.length : Nat) : Int) == ((pre ++ x :: xs).length : Int)) = false := by simp; omega
      have hlk : lk (pre ++ x :: xs) ((pre.length : Nat) : Int) = some x := lk_mid
      have hm : mt ((lo, hi) :: bs) (x :: xs) = if lo ≤ x ∧ x ≤ hi then mt bs xs + 1 else 0 := rfl
      by_cases c1 : x < lo
      · rw [hm, if_neg (show ¬ (lo ≤ x ∧ x ≤ hi) by omega), if_pos (show 0 < ((lo, hi) :: bs).length from Nat.zero_lt_succ _)]
        refine iterN_inr ?_
        simp only [utfOne_s7, hlt, decide_true, cond_true, cond_false, Option.bind_some, he, hlk, c1, Nat.add_zero]
        simp
      · by_cases c2 : x > hi
        · rw [hm, if_neg (show ¬ (lo ≤ x ∧ x ≤ hi) by omega), if_pos (show 0 < ((lo, hi) :: bs).length from Nat.zero_lt_succ _)]
          refine iterN_inr ?_
          simp only [utfOne_s7, hlt, decide_true, decide_false, cond_true, cond_false, Option.bind_some, he, hlk, c1, c2, Nat.add_zero]
          simp
        · rw [hm, if_pos (show lo ≤ x ∧ x ≤ hi by omega)]
          have hy := hxb.1; have hy2 := hxb.2
          have hp64 : 1 ≤ (64 : Int) ^ bs.length := by
            have := Nat.one_le_pow bs.length 64 (by decide)
            exact_mod_cast this
          rw [Int.pow_succ, Int.mul_comm ((64 : Int) ^ bs.length) 64, ← Int.mul_assoc] at hr1
          have hr4 : (r * 64 + x % 64 + 1) * 64 ^ bs.length ≤ (r + 1) * 64 * 64 ^ bs.length := Int.mul_le_mul_of_nonneg_right (by omega) (by omega)
          have hr2 : r * 64 < 1073741824 := by
            have h5 : (r + 1) * 64 * 1 ≤ (r + 1) * 64 * 64 ^ bs.length := Int.mul_le_mul_of_nonneg_left hp64 (by omega)
            omega
          have hr3 : r < 16777216 := by omega
          have e1 : IntKind.i32.wrap (r * 2 ^ (min (6 : Int).toNat IntKind.i32.bits)) = r * 64 := by
            rw [show (2 : Int) ^ (min (6 : Int).toNat IntKind.i32.bits) = 64 by decide]
            exact wrap32' (by omega) (by omega)
          have e2 := and63 x hxb
          have e3 : IntKind.i32.wrap (x % 64) = x % 64 := wrap32' (by omega) (by omega)
          have e4 := or64 hr0 hr3 (y := x % 64) (by omega) (by omega)
          have ew : IntKind.i64.wrap (((pre.length : Nat) : Int) + 1) = (((pre ++ [x]).length : Nat) : Int) := by
            rw [wrap64 (by omega) (by simp only [List.length_cons] at h4; omega)]; simp
          have hs := ih xs (pre ++ [x]) (r * 64 + x % 64) 128 191 k (fun y hy => hx y (by simp [hy])) (fun q hq => h2 q (by
            cases bs with
            | nil => simp at hq
            | cons b bs => simp at hq ⊢; exact .inl hq.symm)) (fun y hy => h2 y (by
            simp only [List.drop_succ_cons, List.drop_zero]; exact List.mem_of_mem_drop hy)) (by simp; omega) (by simp at h4 ⊢; omega) (by omega) (by omega) (by omega)
          rw [← app_mid] at hs
          have hgoal : (if mt bs xs + 1 < bs.length + 1 then (.inl (65533, (((pre.length + (mt bs xs + 1) : Nat) : Int), (decide (mt bs xs + 1 = xs.length + 1), ()))) : (Int × (Int × (Bool × Unit))) ⊕ (Int × (Int × Unit))) else .inr (vl r (bs.length + 1) (x :: xs), ((n : Int), ()))) =
              (if mt bs xs < bs.length then .inl (65533, ((((pre ++ [x]).length + mt bs xs : Nat) : Int), (decide (mt bs xs = xs.length), ()))) else .inr (vl (r * 64 + x % 64) bs.length xs, ((n : Int), ()))) := by
            by_cases c : mt bs xs < bs.length
            · rw [if_pos c, if_pos (by omega)]
              congr 3
              · simp; omega
              · simp
            · rw [if_neg c, if_neg (by omega)]
              rfl
          simp only [List.length_cons]
          rw [hgoal]
          refine (iterN_inl ?_).trans hs
          simp only [utfOne_s7, hlt, decide_true, decide_false, cond_true, cond_false, Option.bind_some, he, hlk, c1, c2, e1, e2, e3, e4, ew, show decide (0 ≤ (6 : Int)) = true from rfl]
theorem one_is (c : Int) (xs : List Int) (hb : Bytes (c :: xs)) (hl : xs.length < 4611686018427387903) :
    utfOne (c :: xs) = some ((), ((front (c :: xs)).1, ((((front (c :: xs)).2.1 : Nat) : Int), ((front (c :: xs)).2.2, ())))) := by
  have hc := hb c (by simp)
  have hlk : lk (c :: xs) (0 : Int) = some c := rfl
  have hd := bd_ok c hc
  simp only [utfOne, hlk, Option.bind_some, lead_is c hc, leadV, front]
  cases hbd : bd c with
  | none => simp
  | some q =>
    obtain ⟨r, bs⟩ := q
    rw [hbd] at hd
    obtain ⟨d1, d2, d3, d4, d5⟩ := hd
    have hn0 : ((((bs.length + 1 : Nat) : Int)) == (0 : Int)) = false := by simp; omega
    have hpow : (r + 1) * 64 ^ bs.length ≤ 1073741824 := by
      rcases d4 with rfl | d4
      · simp; omega
      · have h1 : (64 : Int) ^ bs.length ≤ 262144 := by
          generalize bs.length = k at d3
          match k, d3 with
          | 0, _ => decide
          | 1, _ => decide
          | 2, _ => decide
          | 3, _ => decide
          | k + 4, h => omega
        have h2 : (r + 1) * 64 ^ bs.length ≤ 32 * 64 ^ bs.length := Int.mul_le_mul_of_nonneg_right (by omega) (Int.le_of_lt (Int.pow_pos (by decide)))
        omega
    have hs := one_loop (bs.length + 1) (by omega) bs xs [c] r ((bs.head?).getD (128, 191)).1 ((bs.head?).getD (128, 191)).2 fuN (fun x hx => hb x (by simp [hx])) (fun p hp => by
      cases bs with
      | nil => simp at hp
      | cons b bs => simp at hp; subst hp; rfl) d5 (by simp; omega) (by simp; omega) d1 hpow (by have := fuN_le; omega)
    have e1 : (([c] : List Int).length : Int) = 1 := rfl
    rw [e1] at hs
    simp only [List.singleton_append] at hs
    simp only [hn0, cond_false, Option.bind_some]
    rw [hs]
    by_cases hm : mt bs xs < bs.length
    · simp only [if_pos hm, Option.bind_some]
      simp
      omega
    · simp only [if_neg hm, Option.bind_some]
def flat (bs : List (Int × Int)) : List Int := bs.flatMap fun p => [p.1, p.2]
theorem flat_length (bs : List (Int × Int)) : (flat bs).length = 2 * bs.length := by
  induction bs with
  | nil => rfl
  | cons p bs ih => simp only [flat, List.flatMap_cons, List.length_append, List.length_cons, List.length_nil] at ih ⊢; omega
def rowV (c : Int) : List Int × (Bool × Unit) := match bd c with
  | none => ([], (false, ()))
  | some (_, bs) => (flat bs, (true, ()))
theorem row_is (c : Int) (hc : Byte c) : row1 c = some ((), rowV c) :=
  of_decide_eq_true (byte_all (p := fun c => decide (row1 c = some ((), rowV c))) (by kernel_rfl) c hc)
theorem flat_lk (bp : List (Int × Int)) (p : Int × Int) (bs : List (Int × Int)) : lk (flat (bp ++ p :: bs)) ((2 * bp.length : Nat) : Int) = some p.1 ∧ lk (flat (bp ++ p :: bs)) ((2 * bp.length + 1 : Nat) : Int) = some p.2 := by
  have h := flat_length bp
  have e : flat (bp ++ p :: bs) = flat bp ++ p.1 :: p.2 :: flat bs := by simp [flat]
  rw [e]
  constructor
  · exact lk_idx (by rw [List.getElem?_append_right (by omega)]; simp [h])
  · exact lk_idx (by rw [List.getElem?_append_right (by omega)]; simp [h])
theorem at_loop1 (b : List Int) (at' : Nat) (hL : b.length < 4611686018427387903) : ∀ (bs bp : List (Int × Int)) (xs pre : List Int) (k : Nat), b = pre ++ xs → pre.length = at' + 1 + bp.length → bp.length + bs.length ≤ 3 → bs.length < k →
    iterN (fun x => at1_s7 x.1 x.2.1 x.2.2.1 x.2.2.2.1) k (b, ((at' : Int), (flat (bp ++ bs), (((bp.length + 1 : Nat) : Int), ())))) = some (b, ((at' : Int), (flat (bp ++ bs), (((bp.length + 1 + mt bs xs : Nat) : Int), ())))) := by
  intro bs
  induction bs with
  | nil =>
    intro bp xs pre k hb hp h3 hk
    obtain ⟨k, rfl⟩ := succ_of hk
    have hfl := flat_length (bp ++ [])
    have e1 : IntKind.i64.wrap (Int.tdiv ((flat (bp ++ [])).length : Int) (2 : Int)) = (bp.length : Int) := by
      rw [hfl, Int.tdiv_eq_ediv_of_nonneg (by omega)]
      simp only [List.append_nil]
      rw [wrap64] <;> omega
    have h0 : ¬ ((bp.length + 1 : Nat) : Int) ≤ (bp.length : Int) := by omega
    refine iterN_inr ?_
    simp only [at1_s7, show ((2 : Int) != 0) = true from rfl, cond_true, e1, h0, decide_false, cond_false, Option.bind_some, mt, Nat.add_zero]
  | cons p bs ih =>
    intro bp xs pre k hb hp h3 hk
    obtain ⟨k, rfl⟩ := succ_of hk
    simp only [List.length_cons] at h3 hk
    have hfl := flat_length (bp ++ p :: bs)
    have e1 : IntKind.i64.wrap (Int.tdiv ((flat (bp ++ p :: bs)).length : Int) (2 : Int)) = ((bp.length + bs.length + 1 : Nat) : Int) := by
      rw [hfl, Int.tdiv_eq_ediv_of_nonneg (by omega)]
      simp only [List.length_append, List.length_cons]
      rw [wrap64] <;> omega
    have h0 : ((bp.length + 1 : Nat) : Int) ≤ ((bp.length + bs.length + 1 : Nat) : Int) := by omega
    have hlen : b.length = pre.length + xs.length := by rw [hb]; simp
    have e2 : IntKind.i64.wrap ((at' : Int) + ((bp.length + 1 : Nat) : Int)) = ((pre.length : Nat) : Int) := by rw [wrap64] <;> omega
    have e3 : IntKind.i64.wrap (IntKind.i64.wrap ((2 : Int) * ((bp.length + 1 : Nat) : Int)) - (2 : Int)) = ((2 * bp.length : Nat) : Int) := by
      rw [wrap64 (x := (2 : Int) * ((bp.length + 1 : Nat) : Int)) (by omega) (by omega), wrap64] <;> omega
    have e4 : IntKind.i64.wrap (IntKind.i64.wrap ((2 : Int) * ((bp.length + 1 : Nat) : Int)) - (1 : Int)) = ((2 * bp.length + 1 : Nat) : Int) := by
      rw [wrap64 (x := (2 : Int) * ((bp.length + 1 : Nat) : Int)) (by omega) (by omega), wrap64] <;> omega
    obtain ⟨f1, f2⟩ := flat_lk bp p bs
    cases xs with
    | nil =>
      have h5 : ¬ ((pre.length : Nat) : Int) < (b.length : Int) := by simp at hlen; omega
      refine iterN_inr ?_
      simp only [at1_s7, show ((2 : Int) != 0) = true from rfl, cond_true, e1, h0, decide_true, decide_false, cond_false, Option.bind_some, e2, h5, mt, Nat.add_zero]
    | cons x xs =>
      have h5 : ((pre.length : Nat) : Int) < (b.length : Int) := by simp at hlen; omega
      have hlk : lk b ((pre.length : Nat) : Int) = some x := by rw [hb]; exact lk_mid
      obtain ⟨lo, hi⟩ := p
      have hm : mt ((lo, hi) :: bs) (x :: xs) = if lo ≤ x ∧ x ≤ hi then mt bs xs + 1 else 0 := rfl
      by_cases c1 : x ≥ lo
      · by_cases c2 : x ≤ hi
        · rw [hm, if_pos ⟨c1, c2⟩]
          have hs := ih (bp ++ [(lo, hi)]) xs (pre ++ [x]) k (by rw [hb]; simp) (by simp; omega) (by simp; omega) (by omega)
          have e5 : (bp ++ [(lo, hi)]) ++ bs = bp ++ (lo, hi) :: bs := by simp
          rw [e5] at hs
          have e6 : (bp ++ [(lo, hi)]).length + 1 + mt bs xs = bp.length + 1 + (mt bs xs + 1) := by simp; omega
          rw [e6] at hs
          have ew : IntKind.i64.wrap (((bp.length + 1 : Nat) : Int) + 1) = (((bp ++ [(lo, hi)]).length + 1 : Nat) : Int) := by
            rw [wrap64] <;> (try simp) <;> omega
          refine (iterN_inl ?_).trans hs
          simp only [at1_s7, show ((2 : Int) != 0) = true from rfl, cond_true, e1, h0, decide_true, Option.bind_some, e2, h5, hlk, e3, e4, f1, f2, c1, c2, ew]
        · rw [hm, if_neg (fun h => c2 h.2)]
          refine iterN_inr ?_
          simp only [at1_s7, show ((2 : Int) != 0) = true from rfl, cond_true, e1, h0, decide_true, decide_false, cond_false, Option.bind_some, e2, h5, hlk, e3, e4, f1, f2, c1, c2, Nat.add_zero]
      · rw [hm, if_neg (fun h => c1 h.1)]
        refine iterN_inr ?_
        simp only [at1_s7, show ((2 : Int) != 0) = true from rfl, cond_true, e1, h0, decide_true, decide_false, cond_false, Option.bind_some, e2, h5, hlk, e3, f1, c1, Nat.add_zero]
theorem at_loop2 (b : List Int) (at' n : Nat) (hL : b.length < 4611686018427387903) (hb : Bytes b) : ∀ (j : Nat) (xs pre : List Int) (r : Int) (i k : Nat), b = pre ++ xs → pre.length = at' + i → i + j = n → j ≤ xs.length → n ≤ 4 → 0 ≤ r → (r + 1) * 64 ^ j ≤ 1073741824 → j < k →
    iterN (fun x => at1_s30 x.1 x.2.1 x.2.2.1 x.2.2.2.1 x.2.2.2.2.1) k (b, ((at' : Int), ((n : Int), (r, ((i : Int), ()))))) = some ((n : Int), (vl r j xs, ())) := by
  intro j
  induction j with
  | zero =>
    intro xs pre r i k h1 h2 h3 h4 hn h5 h6 hk
    obtain ⟨k, rfl⟩ := succ_of hk
    have h0 : ¬ ((i : Nat) : Int) < (n : Int) := by omega
    refine iterN_inr ?_
    simp only [at1_s30, h0, decide_false, cond_false, Option.bind_some, vl]
  | succ j ih =>
    intro xs pre r i k h1 h2 h3 h4 hn h5 h6 hk
    obtain ⟨k, rfl⟩ := succ_of hk
    have h0 : ((i : Nat) : Int) < (n : Int) := by omega
    cases xs with
    | nil => simp at h4
    | cons x xs =>
      have hlen : b.length = pre.length + xs.length + 1 := by rw [h1]; simp; omega
      have hx := hb x (by rw [h1]; simp)
      have hy := hx.1; have hy2 := hx.2
      have e2 : IntKind.i64.wrap ((at' : Int) + ((i : Nat) : Int)) = ((pre.length : Nat) : Int) := by rw [wrap64] <;> omega
      have hlk : lk b ((pre.length : Nat) : Int) = some x := by rw [h1]; exact lk_mid
      have hp64 : 1 ≤ (64 : Int) ^ j := by
        have := Nat.one_le_pow j 64 (by decide)
        exact_mod_cast this
      rw [Int.pow_succ, Int.mul_comm ((64 : Int) ^ j) 64, ← Int.mul_assoc] at h6
      have hr4 : (r * 64 + x % 64 + 1) * 64 ^ j ≤ (r + 1) * 64 * 64 ^ j := Int.mul_le_mul_of_nonneg_right (by omega) (by omega)
      have h7 : (r + 1) * 64 * 1 ≤ (r + 1) * 64 * 64 ^ j := Int.mul_le_mul_of_nonneg_left hp64 (by omega)
      have e3 : IntKind.i32.wrap (x) = x := wrap32' (by omega) (by omega)
      have e4 : Int.tmod x 64 = x % 64 := Int.tmod_eq_emod_of_nonneg (by omega)
      have e5 : IntKind.i32.wrap (r * 64) = r * 64 := wrap32' (by omega) (by omega)
      have e6 : IntKind.i32.wrap (r * 64 + x % 64) = r * 64 + x % 64 := wrap32' (by omega) (by omega)
      have ew : IntKind.i64.wrap (((i : Nat) : Int) + 1) = ((i + 1 : Nat) : Int) := by rw [wrap64] <;> omega
      have hs := ih xs (pre ++ [x]) (r * 64 + x % 64) (i + 1) k (by rw [h1]; simp) (by simp; omega) (by omega) (by simp at h4; omega) hn (by omega) (by omega) (by omega)
      refine (iterN_inl ?_).trans hs
      simp only [at1_s30, h0, decide_true, cond_true, Option.bind_some, e2, hlk, show ((64 : Int) != 0) = true from rfl, e3, e4, e5, e6, ew]
theorem mt_le : ∀ (bs : List (Int × Int)) (xs : List Int), mt bs xs ≤ bs.length ∧ mt bs xs ≤ xs.length
  | [], xs => by simp [mt]
  | (lo, hi) :: bs, [] => by simp [mt]
  | (lo, hi) :: bs, x :: xs => by
    have h := mt_le bs xs
    simp only [mt]
    split
    · simp; omega
    · simp
theorem bd_val (c : Int) (hc : Byte c) : (match bd c with | none => True | some (r, bs) => (bs.length = 0 → r = c) ∧ (bs.length = 1 → c % 2 ^ (6 - 1) = r) ∧ (bs.length = 2 → c % 2 ^ (6 - 2) = r) ∧ (bs.length = 3 → c % 2 ^ (6 - 3) = r)) := by
  have h := byte_all (p := fun c => match bd c with | none => true | some (r, bs) => (decide (bs.length ≠ 0) || decide (r = c)) && (decide (bs.length ≠ 1) || decide (c % 2 ^ (6 - 1) = r)) && (decide (bs.length ≠ 2) || decide (c % 2 ^ (6 - 2) = r)) && (decide (bs.length ≠ 3) || decide (c % 2 ^ (6 - 3) = r))) (by kernel_rfl) c hc
  cases hbd : bd c with
  | none => trivial
  | some q =>
    rw [hbd] at h
    simp only [Bool.and_eq_true, Bool.or_eq_true, decide_eq_true_eq] at h
    obtain ⟨⟨⟨h1, h2⟩, h3⟩, h4⟩ := h
    exact ⟨fun h => h1.resolve_left (fun g => g h), fun h => h2.resolve_left (fun g => g h), fun h => h3.resolve_left (fun g => g h), fun h => h4.resolve_left (fun g => g h)⟩
theorem at_is (pre : List Int) (c : Int) (xs : List Int) (hb : Bytes (pre ++ c :: xs)) (hl : (pre ++ c :: xs).length < 4611686018427387903) :
    at1 (pre ++ c :: xs) (pre.length : Int) = some ((), ((front (c :: xs)).1, ((((front (c :: xs)).2.1 : Nat) : Int), ((front (c :: xs)).2.2, ())))) := by
  have hc := hb c (by simp)
  have hlk : lk (pre ++ c :: xs) ((pre.length : Nat) : Int) = some c := lk_mid
  have hd := bd_ok c hc
  have hlen : (pre ++ c :: xs).length = pre.length + xs.length + 1 := by simp; omega
  simp only [at1, hlk, Option.bind_some, row_is c hc, rowV, front]
  cases hbd : bd c with
  | none => simp
  | some q =>
    obtain ⟨r, bs⟩ := q
    rw [hbd] at hd
    obtain ⟨d1, d2, d3, d4, d5⟩ := hd
    have hs := at_loop1 (pre ++ c :: xs) pre.length hl bs [] xs (pre ++ [c]) fuN (by simp) (by simp) (by simpa using d3) (by have := fuN_le; omega)
    simp only [List.nil_append, List.length_nil, Nat.zero_add] at hs
    have e0 : (((1 : Nat)) : Int) = (1 : Int) := rfl
    rw [e0] at hs
    have hml := mt_le bs xs
    have hfl := flat_length bs
    have e1 : IntKind.i64.wrap (Int.tdiv ((flat bs).length : Int) (2 : Int)) = (bs.length : Int) := by
      rw [hfl, Int.tdiv_eq_ediv_of_nonneg (by omega)]
      rw [wrap64] <;> omega
    have e2 : IntKind.i64.wrap ((pre.length : Int) + ((1 + mt bs xs : Nat) : Int)) = ((pre.length + 1 + mt bs xs : Nat) : Int) := by rw [wrap64] <;> omega
    simp only [Bool.not_true, cond_false, Option.bind_some, hs, show ((2 : Int) != 0) = true from rfl, cond_true, e1]
    by_cases hm : mt bs xs < bs.length
    · have h1 : ((1 + mt bs xs : Nat) : Int) ≤ (bs.length : Int) := by omega
      have h2 : ((((pre.length + 1 + mt bs xs : Nat) : Int)) == ((pre ++ c :: xs).length : Int)) = decide (mt bs xs = xs.length) := by
        rw [hlen]
        by_cases h : mt bs xs = xs.length
        · rw [h]; simp; omega
        · simp [h]; omega
      simp only [h1, decide_true, cond_true, Option.bind_some, e2, h2, if_pos hm]
      rw [show 1 + mt bs xs = mt bs xs + 1 by omega]
    · have h1 : ¬ ((1 + mt bs xs : Nat) : Int) ≤ (bs.length : Int) := by omega
      have hmm : mt bs xs = bs.length := by omega
      simp only [h1, decide_false, cond_false, Option.bind_some, if_neg hm]
      rw [hmm]
      have hxl : bs.length ≤ xs.length := by omega
      have e3 : IntKind.i32.wrap c = c := wrap32' (by have := hc.1; omega) (by have := hc.2; omega)
      have hv := bd_val c hc
      rw [hbd] at hv
      have fin : ∀ m : Nat, bs.length = m → 1 ≤ m → IntKind.i32.wrap ((1 : Int) * 2 ^ (min (IntKind.i64.wrap ((7 : Int) - ((1 + m : Nat) : Int))).toNat IntKind.i32.bits)) = 2 ^ (6 - m) → c % 2 ^ (6 - m) = r →
          (decide (0 ≤ (IntKind.i64.wrap ((7 : Int) - ((1 + m : Nat) : Int))))) = true → ((2 : Int) ^ (6 - m) != 0) = true → 0 < (2 : Int) ^ (6 - m) → (r + 1) * 64 ^ m ≤ 1073741824 →
          (bif (((1 + bs.length : Nat) : Int) == (1 : Int)) then
            (Option.bind (lk (pre ++ c :: xs) ((pre.length : Nat) : Int)) fun x24 => some (.inl ((IntKind.i32.wrap (x24)), ((1 : Int), (false, ()))) : (Int × (Int × (Bool × Unit))) ⊕ (List Int × (Int × (Int × Unit)))))
          else some (.inr (pre ++ c :: xs, (((pre.length : Nat) : Int), (((1 + bs.length : Nat) : Int), ()))))) = some (.inr (pre ++ c :: xs, (((pre.length : Nat) : Int), (((1 + m : Nat) : Int), ())))) ∧
          iterN (fun x => at1_s30 x.1 x.2.1 x.2.2.1 x.2.2.2.1 x.2.2.2.2.1) fuN (pre ++ c :: xs, (((pre.length : Nat) : Int), (((1 + m : Nat) : Int), ((Int.tmod c (2 ^ (6 - m))), ((1 : Int), ()))))) = some (((1 + m : Nat) : Int), (vl r m xs, ())) := by
        intro m hm h1 h2 h3 h4 h5 h6 h7
        subst hm
        refine ⟨?_, ?_⟩
        · rw [show ((((1 + bs.length : Nat) : Int)) == (1 : Int)) = false by simp; omega]
          rfl
        · have e4 : Int.tmod c (2 ^ (6 - bs.length)) = r := by rw [Int.tmod_eq_emod_of_nonneg hc.1, h3]
          rw [e4]
          exact at_loop2 (pre ++ c :: xs) pre.length (1 + bs.length) hl hb bs.length xs (pre ++ [c]) r 1 fuN (by simp) (by simp) (by omega) hxl (by omega) d1 h7 (by have := fuN_le; omega)
      have hpow : bs.length ≠ 0 → ∀ m : Nat, bs.length = m → m ≤ 3 → (r + 1) * 64 ^ m ≤ 1073741824 := fun h0 m hm h3 => by
        have hr : r < 32 := by
          rcases d4 with rfl | d4
          · exact absurd rfl h0
          · exact d4
        have h1 : (64 : Int) ^ m ≤ 262144 := by
          match m, h3 with
          | 0, _ => decide
          | 1, _ => decide
          | 2, _ => decide
          | 3, _ => decide
          | k + 4, h => omega
        have h2 : (r + 1) * 64 ^ m ≤ 32 * 64 ^ m := Int.mul_le_mul_of_nonneg_right (by omega) (Int.le_of_lt (Int.pow_pos (by decide)))
        omega
      rcases (by omega : bs.length = 0 ∨ bs.length = 1 ∨ bs.length = 2 ∨ bs.length = 3) with h | h | h | h
      · have hr : r = c := hv.1 h
        subst hr
        rw [h]
        simp [hlk, e3, vl]
      · obtain ⟨g1, g2⟩ := fin 1 h (by omega) (by decide) (hv.2.1 h) (by decide) (by decide) (by decide) (hpow (by omega) 1 h (by omega))
        rw [g1]
        simp only [Option.bind_some, hlk, e3]
        rw [show (decide (0 ≤ (IntKind.i64.wrap ((7 : Int) - ((1 + 1 : Nat) : Int))))) = true by decide, show IntKind.i32.wrap ((1 : Int) * 2 ^ (min (IntKind.i64.wrap ((7 : Int) - ((1 + 1 : Nat) : Int))).toNat IntKind.i32.bits)) = 2 ^ (6 - 1) by decide]
        simp only [cond_true, show ((2 : Int) ^ (6 - 1) != 0) = true by decide, g2, Option.bind_some, h]
      · obtain ⟨g1, g2⟩ := fin 2 h (by omega) (by decide) (hv.2.2.1 h) (by decide) (by decide) (by decide) (hpow (by omega) 2 h (by omega))
        rw [g1]
        simp only [Option.bind_some, hlk, e3]
        rw [show (decide (0 ≤ (IntKind.i64.wrap ((7 : Int) - ((1 + 2 : Nat) : Int))))) = true by decide, show IntKind.i32.wrap ((1 : Int) * 2 ^ (min (IntKind.i64.wrap ((7 : Int) - ((1 + 2 : Nat) : Int))).toNat IntKind.i32.bits)) = 2 ^ (6 - 2) by decide]
        simp only [cond_true, show ((2 : Int) ^ (6 - 2) != 0) = true by decide, g2, Option.bind_some, h]
      · obtain ⟨g1, g2⟩ := fin 3 h (by omega) (by decide) (hv.2.2.2 h) (by decide) (by decide) (by decide) (hpow (by omega) 3 h (by omega))
        rw [g1]
        simp only [Option.bind_some, hlk, e3]
        rw [show (decide (0 ≤ (IntKind.i64.wrap ((7 : Int) - ((1 + 3 : Nat) : Int))))) = true by decide, show IntKind.i32.wrap ((1 : Int) * 2 ^ (min (IntKind.i64.wrap ((7 : Int) - ((1 + 3 : Nat) : Int))).toNat IntKind.i32.bits)) = 2 ^ (6 - 3) by decide]
        simp only [cond_true, show ((2 : Int) ^ (6 - 3) != 0) = true by decide, g2, Option.bind_some, h]
abbrev Pt := Int × (Int × Int)
def pts : Nat → List Int → Int → List Pt
  | 0, _, _ => []
  | _ + 1, [], _ => []
  | k + 1, c :: xs, a => ((front (c :: xs)).1, (a, (((front (c :: xs)).2.1 : Nat) : Int))) :: pts k ((c :: xs).drop (front (c :: xs)).2.1) (a + ((front (c :: xs)).2.1 : Nat))
def wr : Nat → List Int → Int → List Pt × (List Int × Int)
  | 0, all, a => ([], (all, a))
  | _ + 1, [], a => ([], ([], a))
  | k + 1, c :: xs, a => if (front (c :: xs)).2.2 then ([], (c :: xs, a)) else
      (((front (c :: xs)).1, (a, (((front (c :: xs)).2.1 : Nat) : Int))) :: (wr k ((c :: xs).drop (front (c :: xs)).2.1) (a + ((front (c :: xs)).2.1 : Nat))).1,
        (wr k ((c :: xs).drop (front (c :: xs)).2.1) (a + ((front (c :: xs)).2.1 : Nat))).2)
theorem front_w (c : Int) (xs : List Int) : 1 ≤ (front (c :: xs)).2.1 ∧ (front (c :: xs)).2.1 ≤ xs.length + 1 ∧ ((front (c :: xs)).2.2 = true → (front (c :: xs)).1 = 65533 ∧ (front (c :: xs)).2.1 = xs.length + 1) := by
  simp only [front]
  cases bd c with
  | none => simp
  | some q =>
    obtain ⟨r, bs⟩ := q
    simp only
    have h := mt_le bs xs
    by_cases hm : mt bs xs < bs.length
    · simp only [if_pos hm, decide_eq_true_eq]
      exact ⟨by omega, by omega, fun h => ⟨trivial, by omega⟩⟩
    · simp only [if_neg hm]
      exact ⟨by omega, by omega, fun h => by cases h⟩
theorem pts_wr : ∀ (k : Nat) (all : List Int) (a : Int), all.length ≤ k → pts k all a = (wr k all a).1 ++ (match (wr k all a).2.1 with | [] => [] | y :: ys => [(65533, ((wr k all a).2.2, ((y :: ys).length : Int)))])
  | 0, all, a, h => by
    have : all = [] := List.eq_nil_of_length_eq_zero (by omega)
    subst this; rfl
  | k + 1, [], a, h => rfl
  | k + 1, c :: xs, a, h => by
    obtain ⟨h1, h2, h3⟩ := front_w c xs
    simp only [List.length_cons] at h
    simp only [pts, wr]
    cases hm : (front (c :: xs)).2.2 with
    | true =>
      obtain ⟨h4, h5⟩ := h3 hm
      simp only [if_true, List.nil_append]
      rw [h4, h5]
      have : (c :: xs).drop (xs.length + 1) = [] := by simp
      rw [this]
      have : ∀ a, pts k [] a = [] := fun a => by cases k <;> rfl
      rw [this]
      simp
    | false =>
      have ih := pts_wr k ((c :: xs).drop (front (c :: xs)).2.1) (a + ((front (c :: xs)).2.1 : Nat)) (by simp; omega)
      simp only [Bool.false_eq_true, if_false, List.cons_append]
      rw [ih]
theorem wr_bound : ∀ (k : Nat) (all : List Int) (a : Int), (wr k all a).1.length + (wr k all a).2.1.length ≤ all.length ∧ a ≤ (wr k all a).2.2 ∧ (wr k all a).2.2 + (wr k all a).2.1.length = a + all.length
  | 0, all, a => by simp [wr]
  | k + 1, [], a => by simp [wr]
  | k + 1, c :: xs, a => by
    obtain ⟨h1, h2, h3⟩ := front_w c xs
    simp only [wr]
    split
    · simp
    · obtain ⟨g1, g2, g3⟩ := wr_bound k ((c :: xs).drop (front (c :: xs)).2.1) (a + ((front (c :: xs)).2.1 : Nat))
      simp only [List.length_drop, List.length_cons] at g1 g2 g3 ⊢
      refine ⟨by omega, by omega, ?_⟩
      rw [g3]; omega
theorem room24 {n : Nat} (h : n ≤ 100000000) : roomOk n 24 = true := by simp [roomOk]; omega
theorem bytes_drop {l : List Int} (h : Bytes l) (n : Nat) : Bytes (l.drop n) := fun x hx => h x (List.mem_of_mem_drop hx)
theorem wr_loop : ∀ (k : Nat) (all : List Int) (l : List Pt) (a : Int) (n : Nat), all.length ≤ k → Bytes all → l.length + all.length ≤ 20000000 → 0 ≤ a → a + all.length ≤ 40000000 → k < n →
    iterN (fun x => utfWrite_s4 x.1 x.2.1 x.2.2.1) n (((), (a, false)), (all, (l, ()))) = some (((), ((wr k all a).2.2, false)), ((wr k all a).2.1, (l ++ (wr k all a).1, ()))) := by
  intro k
  induction k with
  | zero =>
    intro all l a n h1 hb h2 h3 h4 hn
    obtain ⟨n, rfl⟩ := succ_of hn
    have : all = [] := List.eq_nil_of_length_eq_zero (by omega)
    subst this
    refine iterN_inr ?_
    simp [utfWrite_s4, wr]
  | succ k ih =>
    intro all l a n h1 hb h2 h3 h4 hn
    obtain ⟨n, rfl⟩ := succ_of hn
    cases all with
    | nil =>
      refine iterN_inr ?_
      simp [utfWrite_s4, wr]
    | cons c xs =>
      simp only [List.length_cons] at h1 h2 h4
      have h0 : (((c :: xs).length : Nat) : Int) > 0 := by simp
      have ho := one_is c xs hb (by omega)
      obtain ⟨w1, w2, w3⟩ := front_w c xs
      simp only [wr]
      cases hm : (front (c :: xs)).2.2 with
      | true =>
        rw [hm] at ho
        simp only [if_true, List.append_nil]
        refine iterN_inr ?_
        simp only [utfWrite_s4, h0, decide_true, cond_true, Option.bind_some, ho]
      | false =>
        rw [hm] at ho
        simp only [Bool.false_eq_true, if_false]
        have e1 : inB (((front (c :: xs)).2.1 : Nat) : Int) ((c :: xs).length : Int) (c :: xs).length = true := by
          simp only [inB, Bool.and_eq_true, decide_eq_true_eq, List.length_cons]; omega
        have e2 : ((c :: xs).drop (((front (c :: xs)).2.1 : Nat) : Int).toNat).take (((c :: xs).length : Int) - (((front (c :: xs)).2.1 : Nat) : Int)).toNat = (c :: xs).drop (front (c :: xs)).2.1 := by
          rw [Int.toNat_natCast]
          apply List.take_of_length_le
          simp only [List.length_drop, List.length_cons]; omega
        have e3 : IntKind.i64.wrap (a + (((front (c :: xs)).2.1 : Nat) : Int)) = a + ((front (c :: xs)).2.1 : Nat) := wrap64 (by omega) (by omega)
        have hs := ih ((c :: xs).drop (front (c :: xs)).2.1) (l ++ [((front (c :: xs)).1, (a, (((front (c :: xs)).2.1 : Nat) : Int)))]) (a + ((front (c :: xs)).2.1 : Nat)) n (by simp; omega) (bytes_drop hb _) (by simp; omega) (by omega) (by simp; omega) (by omega)
        rw [List.append_assoc, List.singleton_append] at hs
        have hr : roomOk (l.length + [((front (c :: xs)).1, (a, (((front (c :: xs)).2.1 : Nat) : Int)))].length) 24 = true := room24 (by simp; omega)
        refine (iterN_inl ?_).trans hs
        simp only [utfWrite_s4, h0, decide_true, cond_true, cond_false, Option.bind_some, ho, hr, e1, e2, e3]
theorem room1 {n : Nat} (h : n ≤ 200000000) : roomOk n 1 = true := by simp [roomOk]; omega
theorem utfDecode_is (b : List Int) (hb : Bytes b) (hl : b.length ≤ 10000000) : utfDecode b = some ((), (pts b.length b 0, ())) := by
  have hw := wr_loop b.length b [] 0 fuN (Nat.le_refl _) hb (by simp; omega) (by omega) (by omega) (by have := fuN_le; omega)
  obtain ⟨g1, g2, g3⟩ := wr_bound b.length b 0
  have hp := pts_wr b.length b 0 (Nat.le_refl _)
  generalize wr b.length b 0 = q at *
  obtain ⟨l, rest, a⟩ := q
  simp only [List.nil_append] at hw
  simp only at g1 g2 g3 hp
  have r1 : roomOk (([] : List Int).length + b.length) 1 = true := room1 (by simp; omega)
  have r2 : roomOk rest.length 1 = true := room1 (by omega)
  simp only [utfDecode, utfNew, Option.bind_some, utfWrite, cond_false, r1, cond_true, List.nil_append, hw, r2]
  cases rest with
  | nil =>
    have r3 : roomOk (l.length + ([] : List Pt).length) 24 = true := room24 (by simp at g1 ⊢; omega)
    simp only [utfClose, cond_false, Option.bind_some, List.length_nil, show ((((0 : Nat) : Int)) == (0 : Int)) = true from rfl, cond_true]
    rw [hp]
    simp at r3
    simp [r3]
  | cons y ys =>
    have h0 : (((((y :: ys).length : Nat) : Int)) == (0 : Int)) = false := by simp; omega
    have r3 : roomOk (l.length + [((65533 : Int), (a, (((y :: ys).length : Nat) : Int)))].length) 24 = true := room24 (by simp at g1 ⊢; omega)
    simp only [utfClose, cond_false, Option.bind_some, h0, r3, cond_true]
    rw [hp]
theorem dec_loop (b : List Int) (hb : Bytes b) (hL : b.length ≤ 10000000) : ∀ (k : Nat) (all pre : List Int) (l : List Pt) (n : Nat), b = pre ++ all → all.length ≤ k → l.length + all.length ≤ 20000000 → k < n →
    ∃ y, iterN (fun x => decode1_s2 x.1 x.2.1 x.2.2.1 x.2.2.2.1) n (b, (false, (l, (((pre.length : Nat) : Int), ())))) = some y ∧ (y = .inl (l ++ pts k all (pre.length : Int), ()) ∨ y = .inr (l ++ pts k all (pre.length : Int), ())) := by
  intro k
  induction k with
  | zero =>
    intro all pre l n hbe h1 h2 hn
    obtain ⟨n, rfl⟩ := succ_of hn
    have : all = [] := List.eq_nil_of_length_eq_zero (by omega)
    subst this
    have h0 : ¬ ((pre.length : Nat) : Int) < (b.length : Int) := by rw [hbe]; simp
    refine ⟨_, iterN_inr ?_, .inr (by simp [pts]; rfl)⟩
    simp only [decode1_s2, h0, decide_false, cond_false, Option.bind_some]
  | succ k ih =>
    intro all pre l n hbe h1 h2 hn
    obtain ⟨n, rfl⟩ := succ_of hn
    cases all with
    | nil =>
      have h0 : ¬ ((pre.length : Nat) : Int) < (b.length : Int) := by rw [hbe]; simp
      refine ⟨_, iterN_inr ?_, .inr (by simp [pts]; rfl)⟩
      simp only [decode1_s2, h0, decide_false, cond_false, Option.bind_some]
    | cons c xs =>
      simp only [List.length_cons] at h1 h2
      have hlen : b.length = pre.length + xs.length + 1 := by rw [hbe]; simp; omega
      have h0 : ((pre.length : Nat) : Int) < (b.length : Int) := by omega
      have ho := at_is pre c xs (by rw [← hbe]; exact hb) (by rw [← hbe]; omega)
      rw [← hbe] at ho
      obtain ⟨w1, w2, w3⟩ := front_w c xs
      have e1 : pre ++ c :: xs = (pre ++ (c :: xs).take (front (c :: xs)).2.1) ++ (c :: xs).drop (front (c :: xs)).2.1 := by rw [List.append_assoc, List.take_append_drop]
      have e2 : (pre ++ (c :: xs).take (front (c :: xs)).2.1).length = pre.length + (front (c :: xs)).2.1 := by simp; omega
      obtain ⟨y, g1, g2⟩ := ih ((c :: xs).drop (front (c :: xs)).2.1) (pre ++ (c :: xs).take (front (c :: xs)).2.1) (l ++ [((front (c :: xs)).1, ((pre.length : Int), (((front (c :: xs)).2.1 : Nat) : Int)))]) n (by rw [hbe, e1]) (by simp; omega) (by simp; omega) (by omega)
      rw [e2] at g1 g2
      have e3 : IntKind.i64.wrap (((pre.length : Nat) : Int) + (((front (c :: xs)).2.1 : Nat) : Int)) = ((pre.length + (front (c :: xs)).2.1 : Nat) : Int) := by rw [wrap64] <;> omega
      have e4 : ((pre.length + (front (c :: xs)).2.1 : Nat) : Int) = (pre.length : Int) + ((front (c :: xs)).2.1 : Nat) := by omega
      rw [List.append_assoc, List.singleton_append, e4] at g2
      have hr : roomOk (l.length + [((front (c :: xs)).1, ((pre.length : Int), (((front (c :: xs)).2.1 : Nat) : Int)))].length) 24 = true := room24 (by simp; omega)
      refine ⟨y, (iterN_inl ?_).trans g1, g2⟩
      simp only [decode1_s2, h0, decide_true, cond_true, cond_false, Option.bind_some, ho, hr, e3]
theorem decode1_is (b : List Int) (hb : Bytes b) (hl : b.length ≤ 10000000) : decode1 b false = some ((), (pts b.length b 0, ())) := by
  obtain ⟨y, h1, h2⟩ := dec_loop b hb hl b.length b [] [] fuN rfl (Nat.le_refl _) (by simp; omega) (by have := fuN_le; omega)
  have h1' : iterN (fun x => decode1_s2 x.1 x.2.1 x.2.2.1 x.2.2.2.1) fuN (b, (false, (([] : List Pt), ((0 : Int), ())))) = some y := h1
  simp only [decode1, h1', Option.bind_some]
  rcases h2 with rfl | rfl <;> rfl
def runes (b : List Int) : List Int := (pts b.length b 0).map (·.1)
theorem pts_length : ∀ (k : Nat) (b : List Int) (a : Int), (pts k b a).length ≤ b.length
  | 0, b, a => by simp [pts]
  | k + 1, [], a => by simp [pts]
  | k + 1, c :: xs, a => by
    obtain ⟨w1, w2, w3⟩ := front_w c xs
    have := pts_length k ((c :: xs).drop (front (c :: xs)).2.1) (a + ((front (c :: xs)).2.1 : Nat))
    simp only [pts, List.length_cons, List.length_drop] at this ⊢
    omega
theorem runes_length (b : List Int) : (runes b).length ≤ b.length := by simp only [runes, List.length_map]; exact pts_length _ _ _
theorem runes_loop : ∀ (rest pre : List Pt) (g : List Int) (n : Nat), pre.length + rest.length ≤ 20000000 → g.length + rest.length ≤ 20000000 → rest.length < n →
    iterN (fun x => runes1_s3 x.1 x.2.1 x.2.2.1) n (g, (pre ++ rest, (((pre.length : Nat) : Int), ()))) = some (g ++ rest.map (·.1), ()) := by
  intro rest
  induction rest with
  | nil =>
    intro pre g n h1 h2 hn
    obtain ⟨n, rfl⟩ := succ_of hn
    refine iterN_inr ?_
    simp [runes1_s3]
  | cons r rest ih =>
    intro pre g n h1 h2 hn
    simp only [List.length_cons] at h1 h2 hn
    obtain ⟨n, rfl⟩ := succ_of hn
    have hlt : ((pre.length : Nat) : Int) < ((pre ++ r :: rest).length : Int) := lt_mid
    have ew : IntKind.i64.wrap (((pre.length : Nat) : Int) + 1) = (((pre ++ [r]).length : Nat) : Int) := w_mid (by omega)
    have hs := ih (pre ++ [r]) (g ++ [r.1]) n (by simp; omega) (by simp; omega) (by omega)
    rw [show (pre ++ [r]) ++ rest = pre ++ r :: rest by simp, show (g ++ [r.1]) ++ rest.map (·.1) = g ++ (r :: rest).map (·.1) by simp] at hs
    have hr : roomOk (g.length + [r.1].length) 4 = true := by simp [roomOk]; omega
    refine (iterN_inl ?_).trans hs
    simp only [runes1_s3, hlt, decide_true, cond_true, lk_mid, Option.bind_some, hr, ew]
theorem runes1_is (b : List Int) (hb : Bytes b) (hl : b.length ≤ 10000000) : runes1 b = some ((), (runes b, ())) := by
  have hp := pts_length b.length b 0
  have h1 := runes_loop (pts b.length b 0) [] [] fuN (by simp; omega) (by simp; omega) (by have := fuN_le; omega)
  have h1' : iterN (fun x => runes1_s3 x.1 x.2.1 x.2.2.1) fuN (([] : List Int), (pts b.length b 0, ((0 : Int), ()))) = some (runes b, ()) := h1
  simp only [runes1, decode1_is b hb hl, Option.bind_some, h1']
def vld (r : Int) : Bool := decide (0 ≤ r) && (decide (r ≤ 1114111) && (decide (r < 55296) || decide (r > 57343)))
def encR (r : Int) : List Int :=
  if r < 128 then [r]
  else if r < 2048 then [192 + r / 64, 128 + r % 64]
  else if r < 65536 then [224 + r / 4096, 128 + r / 64 % 64, 128 + r % 64]
  else [240 + r / 262144, 128 + r / 4096 % 64, 128 + r / 64 % 64, 128 + r % 64]
def fix (r : Int) : Int := if vld r then r else 65533
def enc (l : List Int) : List Int := l.flatMap fun r => encR (fix r)
theorem fix_ok (r : Int) : 0 ≤ fix r ∧ fix r ≤ 1114111 := by
  unfold fix vld
  split
  · rename_i h
    simp only [Bool.and_eq_true, decide_eq_true_eq] at h
    exact ⟨h.1, h.2.1⟩
  · exact ⟨by decide, by decide⟩
theorem encR_length (r : Int) : 1 ≤ (encR r).length ∧ (encR r).length ≤ 4 := by
  unfold encR
  split
  · simp
  split
  · simp
  split <;> simp
theorem utfValid_is (r : Int) : utfValid r = some ((), (vld r, ())) := by
  by_cases h1 : 0 ≤ r <;> by_cases h2 : r ≤ 1114111 <;> by_cases h3 : r < 55296 <;> simp [utfValid, vld, h1, h2, h3]
theorem valid1_is (r : Int) : valid1 r = some ((), (vld r, ())) := by
  by_cases h1 : 0 ≤ r <;> by_cases h2 : r < 1114112 <;> by_cases h3 : 55296 ≤ r <;> simp [valid1, vld, h1, h2, h3] <;> (try omega) <;> (by_cases h4 : r < 57344 <;> simp [h4] <;> omega)
theorem u8id {x : Int} (h : Byte x) : IntKind.u8.wrap x = x := by
  have := h.1; have := h.2
  simp only [IntKind.wrap, IntKind.signed, IntKind.bits]
  simp
  omega
def orB (m : Int) (x : Int) : Int := IntKind.u8.wrap (((BitVec.ofInt IntKind.u8.bits m ||| BitVec.ofInt IntKind.u8.bits x).toNat : Int))
theorem or128 (x : Int) (h0 : 0 ≤ x) (h1 : x < 64) : orB 128 x = 128 + x := by
  have := byte_all (p := fun x => decide (64 ≤ x) || decide (orB 128 x = 128 + x)) (by kernel_rfl) x ⟨h0, by omega⟩
  simp only [Bool.or_eq_true, decide_eq_true_eq] at this
  exact this.resolve_left (by omega)
theorem or192 (x : Int) (h0 : 0 ≤ x) (h1 : x < 32) : orB 192 x = 192 + x := by
  have := byte_all (p := fun x => decide (32 ≤ x) || decide (orB 192 x = 192 + x)) (by kernel_rfl) x ⟨h0, by omega⟩
  simp only [Bool.or_eq_true, decide_eq_true_eq] at this
  exact this.resolve_left (by omega)
theorem or224 (x : Int) (h0 : 0 ≤ x) (h1 : x < 16) : orB 224 x = 224 + x := by
  have := byte_all (p := fun x => decide (16 ≤ x) || decide (orB 224 x = 224 + x)) (by kernel_rfl) x ⟨h0, by omega⟩
  simp only [Bool.or_eq_true, decide_eq_true_eq] at this
  exact this.resolve_left (by omega)
theorem or240 (x : Int) (h0 : 0 ≤ x) (h1 : x < 8) : orB 240 x = 240 + x := by
  have := byte_all (p := fun x => decide (8 ≤ x) || decide (orB 240 x = 240 + x)) (by kernel_rfl) x ⟨h0, by omega⟩
  simp only [Bool.or_eq_true, decide_eq_true_eq] at this
  exact this.resolve_left (by omega)
theorem and63' (r : Int) (h0 : 0 ≤ r) (h1 : r < 2147483648) : IntKind.i32.wrap (((BitVec.ofInt IntKind.i32.bits r &&& BitVec.ofInt IntKind.i32.bits (63 : Int)).toNat : Int)) = r % 64 := by
  obtain ⟨a, rfl⟩ : ∃ a : Nat, r = (a : Int) := ⟨r.toNat, by omega⟩
  have e : (BitVec.ofInt 32 ((a : Nat) : Int) &&& BitVec.ofInt 32 ((63 : Nat) : Int)).toNat = a % 64 := by
    simp only [BitVec.ofInt_natCast, BitVec.toNat_and, BitVec.toNat_ofNat]
    rw [Nat.mod_eq_of_lt (show a < 2 ^ 32 by omega), show 63 % 2 ^ 32 = 2 ^ 6 - 1 by decide, Nat.and_two_pow_sub_one_eq_mod]
  show IntKind.i32.wrap (((BitVec.ofInt 32 ((a : Nat) : Int) &&& BitVec.ofInt 32 ((63 : Nat) : Int)).toNat : Int)) = _
  rw [e, wrap32' (by omega) (by omega)]
  omega
theorem p6 : (2 : Int) ^ (min (6 : Int).toNat IntKind.i32.bits) = 64 := by decide
theorem p12 : (2 : Int) ^ (min (12 : Int).toNat IntKind.i32.bits) = 4096 := by decide
theorem p18 : (2 : Int) ^ (min (18 : Int).toNat IntKind.i32.bits) = 262144 := by decide
theorem fdiv_pos {r m : Int} (h0 : 0 ≤ r) (hm : 0 < m) : Int.fdiv r m = r / m := by rw [Int.fdiv_eq_ediv_of_nonneg _ (by omega)]
theorem enc_loop : ∀ (rest pre g : List Int) (n : Nat), pre.length + rest.length ≤ 20000000 → g.length + 4 * rest.length ≤ 100000000 → rest.length < n →
    iterN (fun x => utfEncode_s2 x.1 x.2.1 x.2.2.1 x.2.2.2.1) n (g, (pre ++ rest, (((pre ++ rest).length : Int), (((pre.length : Nat) : Int), ())))) = some (g ++ enc rest, ()) := by
  intro rest
  induction rest with
  | nil =>
    intro pre g n h1 h2 hn
    obtain ⟨n, rfl⟩ := succ_of hn
    refine iterN_inr ?_
    simp [utfEncode_s2, enc]
  | cons r rest ih =>
    intro pre g n h1 h2 hn
    simp only [List.length_cons] at h1 h2 hn
    obtain ⟨n, rfl⟩ := succ_of hn
    have hlt : ((pre.length : Nat) : Int) < ((pre ++ r :: rest).length : Int) := lt_mid
    have ew : IntKind.i64.wrap (((pre.length : Nat) : Int) + 1) = (((pre ++ [r]).length : Nat) : Int) := w_mid (by omega)
    obtain ⟨l1, l2⟩ := encR_length (fix r)
    have hs := ih (pre ++ [r]) (g ++ encR (fix r)) n (by simp; omega) (by simp; omega) (by omega)
    rw [show (pre ++ [r]) ++ rest = pre ++ r :: rest by simp, show (g ++ encR (fix r)) ++ enc rest = g ++ enc (r :: rest) by simp [enc]] at hs
    refine (iterN_inl ?_).trans hs
    obtain ⟨f1, f2⟩ := fix_ok r
    have hv : (bif (!vld r) then (some (g, ((65533 : Int), (pre ++ r :: rest, (((pre ++ r :: rest).length : Int), (((pre.length : Nat) : Int), ()))))) : Option (List Int × (Int × (List Int × (Int × (Int × Unit)))))) else
        some (g, (r, (pre ++ r :: rest, (((pre ++ r :: rest).length : Int), (((pre.length : Nat) : Int), ())))))) = some (g, (fix r, (pre ++ r :: rest, (((pre ++ r :: rest).length : Int), (((pre.length : Nat) : Int), ()))))) := by
      unfold fix
      cases vld r <;> rfl
    have hroom : ∀ l : List Int, l.length ≤ 4 → roomOk (g.length + l.length) 1 = true := fun l h => room1 (by omega)
    simp only [utfEncode_s2, hlt, decide_true, cond_true, lk_mid, Option.bind_some, utfValid_is, hv, ew]
    generalize fix r = q at *
    have c6 := fdiv_pos f1 (m := 64) (by decide)
    have c12 := fdiv_pos f1 (m := 4096) (by decide)
    have c18 := fdiv_pos f1 (m := 262144) (by decide)
    simp only [p6, p12, p18, c6, c12, c18, show decide (0 ≤ (6 : Int)) = true from rfl, show decide (0 ≤ (12 : Int)) = true from rfl, show decide (0 ≤ (18 : Int)) = true from rfl, cond_true]
    have a1 := and63' q f1 (by omega)
    have a2 := and63' (q / 64) (by omega) (by omega)
    have a3 := and63' (q / 4096) (by omega) (by omega)
    have m1 := or128 (q % 64) (by omega) (by omega)
    have m2 := or128 (q / 64 % 64) (by omega) (by omega)
    have m3 := or128 (q / 4096 % 64) (by omega) (by omega)
    simp only [orB] at m1 m2 m3
    simp only [a1, a2, a3, u8id (x := q % 64) ⟨by omega, by omega⟩, u8id (x := q / 64 % 64) ⟨by omega, by omega⟩, u8id (x := q / 4096 % 64) ⟨by omega, by omega⟩, m1, m2, m3]
    unfold encR
    by_cases d1 : q < 128
    · have := u8id (x := q) ⟨f1, by omega⟩
      simp only [d1, decide_true, cond_true, this, hroom [q] (by simp), if_true]
    · by_cases d2 : q < 2048
      · have n1 := or192 (q / 64) (by omega) (by omega)
        simp only [orB] at n1
        have := u8id (x := q / 64) ⟨by omega, by omega⟩
        simp only [d1, d2, decide_true, decide_false, cond_true, cond_false, this, n1, hroom [192 + q / 64, 128 + q % 64] (by simp), if_true, if_false]
      · by_cases d3 : q < 65536
        · have n1 := or224 (q / 4096) (by omega) (by omega)
          simp only [orB] at n1
          have := u8id (x := q / 4096) ⟨by omega, by omega⟩
          simp only [d1, d2, d3, decide_true, decide_false, cond_true, cond_false, this, n1, hroom [224 + q / 4096, 128 + q / 64 % 64, 128 + q % 64] (by simp), if_true, if_false]
        · have n1 := or240 (q / 262144) (by omega) (by omega)
          simp only [orB] at n1
          have := u8id (x := q / 262144) ⟨by omega, by omega⟩
          simp only [d1, d2, d3, decide_false, cond_true, cond_false, this, n1, hroom [240 + q / 262144, 128 + q / 4096 % 64, 128 + q / 64 % 64, 128 + q % 64] (by simp), if_false]
theorem utfEncode_is (l : List Int) (h : l.length ≤ 10000000) : utfEncode l = some ((), (enc l, ())) := by
  have h1 := enc_loop l [] [] fuN (by simp; omega) (by simp; omega) (by have := fuN_le; omega)
  have h1' : iterN (fun x => utfEncode_s2 x.1 x.2.1 x.2.2.1 x.2.2.2.1) fuN (([] : List Int), (l, ((l.length : Int), ((0 : Int), ())))) = some (enc l, ()) := h1
  simp only [utfEncode, h1', Option.bind_some]
theorem put1_is (g : List Int) (r : Int) (hg : g.length ≤ 100000000) : put1 g r = some ((), (g ++ encR (fix r), ())) := by
  obtain ⟨f1, f2⟩ := fix_ok r
  have hv : (bif (!vld r) then (some (g, ((65533 : Int), ())) : Option (List Int × (Int × Unit))) else some (g, (r, ()))) = some (g, (fix r, ())) := by
    unfold fix
    cases vld r <;> rfl
  have hroom : ∀ l : List Int, l.length ≤ 4 → roomOk (g.length + l.length) 1 = true := fun l h => room1 (by omega)
  simp only [put1, valid1_is, Option.bind_some, hv]
  generalize fix r = q at *
  have t1 : Int.tdiv q 64 = q / 64 := Int.tdiv_eq_ediv_of_nonneg f1
  have t2 : Int.tdiv q 4096 = q / 4096 := Int.tdiv_eq_ediv_of_nonneg f1
  have t3 : Int.tdiv q 262144 = q / 262144 := Int.tdiv_eq_ediv_of_nonneg f1
  have k1 : IntKind.i32.wrap (q / 64) = q / 64 := wrap32' (by omega) (by omega)
  have k2 : IntKind.i32.wrap (q / 4096) = q / 4096 := wrap32' (by omega) (by omega)
  have k3 : IntKind.i32.wrap (q / 262144) = q / 262144 := wrap32' (by omega) (by omega)
  have e1 : Int.tmod q 64 = q % 64 := Int.tmod_eq_emod_of_nonneg f1
  have e2 : Int.tmod (q / 64) 64 = q / 64 % 64 := Int.tmod_eq_emod_of_nonneg (by omega)
  have e3 : Int.tmod (q / 4096) 64 = q / 4096 % 64 := Int.tmod_eq_emod_of_nonneg (by omega)
  have w1 : IntKind.i32.wrap (128 + q % 64) = 128 + q % 64 := wrap32' (by omega) (by omega)
  have w2 : IntKind.i32.wrap (128 + q / 64 % 64) = 128 + q / 64 % 64 := wrap32' (by omega) (by omega)
  have w3 : IntKind.i32.wrap (128 + q / 4096 % 64) = 128 + q / 4096 % 64 := wrap32' (by omega) (by omega)
  have U1 := u8id (x := 128 + q % 64) ⟨by omega, by omega⟩
  have U2 := u8id (x := 128 + q / 64 % 64) ⟨by omega, by omega⟩
  have U3 := u8id (x := 128 + q / 4096 % 64) ⟨by omega, by omega⟩
  have z1 : ((64 : Int) != 0) = true := rfl
  have z2 : ((4096 : Int) != 0) = true := rfl
  have z3 : ((262144 : Int) != 0) = true := rfl
  unfold encR
  by_cases d1 : q < 128
  · have := u8id (x := q) ⟨f1, by omega⟩
    simp only [d1, decide_true, cond_true, this, hroom [q] (by simp), if_true, Option.bind_some]
  · by_cases d2 : q < 2048
    · have n1 : IntKind.i32.wrap (192 + q / 64) = 192 + q / 64 := wrap32' (by omega) (by omega)
      have := u8id (x := 192 + q / 64) ⟨by omega, by omega⟩
      simp only [t1, k1, e1, w1, U1, z1, z2, z3, d1, d2, decide_true, decide_false, cond_true, cond_false, this, n1, hroom [192 + q / 64, 128 + q % 64] (by simp), if_true, if_false, Option.bind_some]
    · by_cases d3 : q < 65536
      · have n1 : IntKind.i32.wrap (224 + q / 4096) = 224 + q / 4096 := wrap32' (by omega) (by omega)
        have := u8id (x := 224 + q / 4096) ⟨by omega, by omega⟩
        simp only [t1, t2, k1, k2, e1, e2, w1, w2, U1, U2, z1, z2, z3, d1, d2, d3, decide_true, decide_false, cond_true, cond_false, this, n1, hroom [224 + q / 4096, 128 + q / 64 % 64, 128 + q % 64] (by simp), if_true, if_false, Option.bind_some]
      · have n1 : IntKind.i32.wrap (240 + q / 262144) = 240 + q / 262144 := wrap32' (by omega) (by omega)
        have := u8id (x := 240 + q / 262144) ⟨by omega, by omega⟩
        simp only [t1, t2, t3, k1, k2, k3, e1, e2, e3, w1, w2, w3, U1, U2, U3, z1, z2, z3, d1, d2, d3, decide_false, cond_true, cond_false, this, n1, hroom [240 + q / 262144, 128 + q / 4096 % 64, 128 + q / 64 % 64, 128 + q % 64] (by simp), if_false, Option.bind_some]
theorem enc1_loop : ∀ (rest pre g : List Int) (n : Nat), pre.length + rest.length ≤ 20000000 → g.length + 4 * rest.length ≤ 100000000 → rest.length < n →
    iterN (fun x => encode1_s2 x.1 x.2.1 x.2.2.1) n (pre ++ rest, (g, (((pre.length : Nat) : Int), ()))) = some (g ++ enc rest, ()) := by
  intro rest
  induction rest with
  | nil =>
    intro pre g n h1 h2 hn
    obtain ⟨n, rfl⟩ := succ_of hn
    refine iterN_inr ?_
    simp [encode1_s2, enc]
  | cons r rest ih =>
    intro pre g n h1 h2 hn
    simp only [List.length_cons] at h1 h2 hn
    obtain ⟨n, rfl⟩ := succ_of hn
    have hlt : ((pre.length : Nat) : Int) < ((pre ++ r :: rest).length : Int) := lt_mid
    have ew : IntKind.i64.wrap (((pre.length : Nat) : Int) + 1) = (((pre ++ [r]).length : Nat) : Int) := w_mid (by omega)
    obtain ⟨l1, l2⟩ := encR_length (fix r)
    have hs := ih (pre ++ [r]) (g ++ encR (fix r)) n (by simp; omega) (by simp; omega) (by omega)
    rw [show (pre ++ [r]) ++ rest = pre ++ r :: rest by simp, show (g ++ encR (fix r)) ++ enc rest = g ++ enc (r :: rest) by simp [enc]] at hs
    refine (iterN_inl ?_).trans hs
    simp only [encode1_s2, hlt, decide_true, cond_true, lk_mid, Option.bind_some, put1_is g r (by omega), ew]
theorem encode1_is (l : List Int) (h : l.length ≤ 10000000) : encode1 l = some ((), (enc l, ())) := by
  have h1 := enc1_loop l [] [] fuN (by simp; omega) (by simp; omega) (by have := fuN_le; omega)
  have h1' : iterN (fun x => encode1_s2 x.1 x.2.1 x.2.2.1) fuN (l, (([] : List Int), ((0 : Int), ()))) = some (enc l, ()) := h1
  simp only [encode1, h1', Option.bind_some]
abbrev Tx := List UInt8
def ddtS (u : Tx) : List Tx → List Tx
  | [] => []
  | r :: l => if r = u then ddtS u l else r :: ddtS r l
def cptS : List Tx → List Tx
  | [] => []
  | x :: l => x :: ddtS x l
theorem ddtS_length : ∀ (l : List Tx) (u : Tx), (ddtS u l).length ≤ l.length
  | [], _ => Nat.le_refl _
  | r :: l, u => by
    simp only [ddtS]
    split
    · have := ddtS_length l u; simp only [List.length_cons]; omega
    · have := ddtS_length l r; simp only [List.length_cons]; omega
theorem lk_idxS {l : List Tx} {i : Nat} {x : Tx} (h : l[i]? = some x) : lk l (i : Int) = some x := by
  unfold lk
  rw [if_pos (by omega)]
  simpa using h
theorem phaseS2 (start L : Nat) : ∀ (rest : List Tx) (u : Tx) (W M : List Tx) (k2 n : Nat), W.length + M.length + 1 + rest.length = start + L → start + k2 = W.length + M.length + 1 → start + L ≤ 200000000 → 0 < k2 → rest.length < n →
    ∃ g, iterN (fun x => compactS_s14 x.1 x.2.1 x.2.2.1 x.2.2.2.1) n (W ++ M ++ u :: rest, (((W.length : Nat) : Int), (((start, L) : Nat × Nat), (((k2 : Nat) : Int), ())))) = some (g, ((((W ++ ddtS u rest).length : Nat) : Int), ())) ∧
      g.take (W ++ ddtS u rest).length = W ++ ddtS u rest ∧ g.length = start + L := by
  intro rest
  induction rest with
  | nil =>
    intro u W M k2 n h1 h2 h3 h0 hn
    obtain ⟨n, rfl⟩ := succ_of hn
    simp only [List.length_nil] at h1
    have hlt : ¬ ((k2 : Nat) : Int) < ((L : Nat) : Int) := by omega
    refine ⟨W ++ M ++ [u], iterN_inr ?_, by simp [ddtS], by simp; omega⟩
    simp only [compactS_s14, hlt, decide_false, cond_false, ddtS, List.append_nil, Option.bind_some]
  | cons r rest ih =>
    intro u W M k2 n h1 h2 h3 h0 hn
    simp only [List.length_cons] at h1 hn
    obtain ⟨n, rfl⟩ := succ_of hn
    have hlt : ((k2 : Nat) : Int) < ((L : Nat) : Int) := by omega
    have i1 : inR ((k2 : Nat) : Int) L = true := by simp only [inR, Bool.and_eq_true, decide_eq_true_eq]; omega
    have w1 : IntKind.i64.wrap (((k2 : Nat) : Int) - 1) = ((k2 - 1 : Nat) : Int) := w_pred' h0 (by omega)
    have i2 : inR ((k2 - 1 : Nat) : Int) L = true := by simp only [inR, Bool.and_eq_true, decide_eq_true_eq]; omega
    have p1 : plusI start ((k2 : Nat) : Int) = ((W.length + M.length + 1 : Nat) : Int) := by simp only [plusI]; omega
    have p2 : plusI start ((k2 - 1 : Nat) : Int) = ((W.length + M.length : Nat) : Int) := by simp only [plusI]; omega
    have l1 : lk (W ++ M ++ u :: r :: rest) ((W.length + M.length + 1 : Nat) : Int) = some r := lk_idxS (by
      rw [List.getElem?_append_right (by simp)]; simp)
    have l2 : lk (W ++ M ++ u :: r :: rest) ((W.length + M.length : Nat) : Int) = some u := lk_idxS (by
      rw [List.getElem?_append_right (by simp)]; simp)
    have w2 : IntKind.i64.wrap (((k2 : Nat) : Int) + 1) = ((k2 + 1 : Nat) : Int) := w_succ (by omega)
    by_cases hc : r = u
    · subst hc
      obtain ⟨g, g1, g2, g3⟩ := ih r W (M ++ [r]) (k2 + 1) n (by simp; omega) (by simp; omega) h3 (by omega) (by omega)
      have e : W ++ (M ++ [r]) ++ r :: rest = W ++ M ++ r :: r :: rest := by simp
      rw [e] at g1
      have hd : ddtS r (r :: rest) = ddtS r rest := by simp [ddtS]
      rw [hd]
      refine ⟨g, (iterN_inl ?_).trans g1, g2, g3⟩
      have hb : (!(r == r)) = false := by simp
      simp only [compactS_s14, hlt, decide_true, cond_true, cond_false, i1, i2, w1, p1, p2, l1, l2, Option.bind_some, hb, w2]
    · have hd : ddtS u (r :: rest) = r :: ddtS r rest := by simp [ddtS, hc]
      rw [hd]
      obtain ⟨h, T, hT⟩ : ∃ h T, M ++ [u] = h :: T := by cases M with | nil => exact ⟨u, [], rfl⟩ | cons m M => exact ⟨m, M ++ [u], rfl⟩
      have hTl : T.length = M.length := by have := congrArg List.length hT; simp at this; omega
      have eg : W ++ M ++ u :: r :: rest = W ++ h :: (T ++ r :: rest) := by
        rw [show W ++ M ++ u :: r :: rest = W ++ ((M ++ [u]) ++ r :: rest) by simp, hT]; simp
      have l3 : lk (W ++ M ++ u :: r :: rest) ((W.length : Nat) : Int) = some h := by rw [eg]; exact lk_mid
      have hset : (W ++ M ++ u :: r :: rest).set ((W.length : Nat) : Int).toNat r = (W ++ [r]) ++ T ++ r :: rest := by
        rw [eg, Int.toNat_natCast, List.set_append_right _ _ (Nat.le_refl _)]; simp
      obtain ⟨g, g1, g2, g3⟩ := ih r (W ++ [r]) T (k2 + 1) n (by simp; omega) (by simp; omega) h3 (by omega) (by omega)
      have e2 : (W ++ [r]) ++ ddtS r rest = W ++ r :: ddtS r rest := by simp
      rw [e2] at g1 g2
      refine ⟨g, (iterN_inl ?_).trans g1, g2, g3⟩
      have hb : (!(r == u)) = true := by simp [hc]
      have w3 : IntKind.i64.wrap (((W.length : Nat) : Int) + 1) = (((W ++ [r]).length : Nat) : Int) := w_mid (by omega)
      simp only [compactS_s14, hlt, decide_true, cond_true, i1, i2, w1, p1, p2, l1, l2, l3, Option.bind_some, hb, w2, w3, hset]
theorem phaseS1 : ∀ (rest : List Tx) (p : Tx) (pre : List Tx) (n : Nat), pre.length + rest.length ≤ 100000000 → rest.length < n →
    ∃ y, iterN (fun x => compactS_s4 x.1 x.2.1) n (pre ++ p :: rest, (((pre.length + 1 : Nat) : Int), ())) = some y ∧
      (y = .inl (pre ++ p :: ddtS p rest, ()) ∨ y = .inr (pre ++ p :: ddtS p rest, ())) := by
  intro rest
  induction rest with
  | nil =>
    intro p pre n h1 hn
    obtain ⟨n, rfl⟩ := succ_of hn
    have hlt : ¬ ((pre.length + 1 : Nat) : Int) < ((pre ++ [p]).length : Int) := by simp
    refine ⟨_, iterN_inr ?_, .inr rfl⟩
    simp only [compactS_s4, hlt, decide_false, cond_false, ddtS, Option.bind_some]
  | cons q rest ih =>
    intro p pre n h1 hn
    simp only [List.length_cons] at h1 hn
    obtain ⟨n, rfl⟩ := succ_of hn
    have hlen : (pre ++ p :: q :: rest).length = pre.length + rest.length + 2 := by simp; omega
    have hlt : ((pre.length + 1 : Nat) : Int) < ((pre ++ p :: q :: rest).length : Int) := by rw [hlen]; omega
    have l1 : lk (pre ++ p :: q :: rest) ((pre.length + 1 : Nat) : Int) = some q := lk_idxS (by rw [List.getElem?_append_right (by omega)]; simp)
    have w1 : IntKind.i64.wrap (((pre.length + 1 : Nat) : Int) - 1) = ((pre.length : Nat) : Int) := w_pred (by omega)
    have l2 : lk (pre ++ p :: q :: rest) ((pre.length : Nat) : Int) = some p := lk_mid
    by_cases hc : q = p
    · subst hc
      have hb : (q == q) = true := by simp
      have hin : inB ((pre.length + 1 : Nat) : Int) ((pre ++ q :: q :: rest).length : Int) (pre ++ q :: q :: rest).length = true := by
        simp only [inB, hlen, Bool.and_eq_true, decide_eq_true_eq]; omega
      have hL : ((((pre ++ q :: q :: rest).length : Nat) : Int) - ((pre.length + 1 : Nat) : Int)).toNat = rest.length + 1 := by rw [hlen]; omega
      obtain ⟨g, g1, g2, g3⟩ := phaseS2 (pre.length + 1) (rest.length + 1) rest q (pre ++ [q]) [] 1 fuN (by simp; omega) (by simp) (by omega) (by omega) (by have := fuN_le; omega)
      have eg : (pre ++ [q]) ++ [] ++ q :: rest = pre ++ q :: q :: rest := by simp
      rw [eg] at g1
      have ew : (((pre ++ [q]).length : Nat) : Int) = ((pre.length + 1 : Nat) : Int) := by simp
      rw [ew] at g1
      have hd : ddtS q (q :: rest) = ddtS q rest := by simp [ddtS]
      have er : pre ++ q :: ddtS q (q :: rest) = (pre ++ [q]) ++ ddtS q rest := by rw [hd]; simp
      rw [er]
      generalize hR : (pre ++ [q]) ++ ddtS q rest = R at g1 g2 ⊢
      have hRl : R.length ≤ pre.length + 1 + (rest.length + 1) := by
        rw [← hR]; have := ddtS_length rest q; simp; omega
      have hin2 : inB ((R.length : Nat) : Int) (g.length : Int) g.length = true := by
        simp only [inB, g3, Bool.and_eq_true, decide_eq_true_eq]; omega
      have hRg : R.length ≤ g.length := by omega
      have hcl : (clrL g R.length (g.length - R.length) ([] : List UInt8)).length = g.length := by simp [clrL]; omega
      have hin3 : inB (0 : Int) ((R.length : Nat) : Int) (clrL g R.length (g.length - R.length) ([] : List UInt8)).length = true := by
        rw [hcl]; simp only [inB, Bool.and_eq_true, decide_eq_true_eq]; omega
      have hfin : (((clrL g R.length (g.length - R.length) ([] : List UInt8))).drop (0 : Int).toNat).take (((R.length : Nat) : Int) - 0).toNat = R := by
        have e1 : (((R.length : Nat) : Int) - 0).toNat = R.length := by omega
        rw [e1]
        simp only [Int.toNat_zero, List.drop_zero, clrL]
        rw [List.append_assoc, List.take_append_of_le_length (by simp [g3]; omega), List.take_take, Nat.min_self]
        exact g2
      have hsub : ((((g.length : Nat) : Int)) - ((R.length : Nat) : Int)).toNat = g.length - R.length := by omega
      refine ⟨_, iterN_inr ?_, .inl rfl⟩
      have hone : ((1 : Nat) : Int) = (1 : Int) := rfl
      rw [hone] at g1
      simp only [compactS_s4, hlt, decide_true, cond_true, l1, w1, l2, Option.bind_some, hb, hin, hL, Int.toNat_natCast, g1, hin2, hsub, hin3, hfin]
    · have hb : (q == p) = false := by simp [hc]
      have hd : ddtS p (q :: rest) = q :: ddtS q rest := by simp [ddtS, hc]
      obtain ⟨y, h2, h3⟩ := ih q (pre ++ [p]) n (by simp; omega) (by omega)
      rw [← app_mid] at h2
      have w2 : IntKind.i64.wrap (((pre.length + 1 : Nat) : Int) + 1) = (((pre ++ [p]).length + 1 : Nat) : Int) := by rw [len_succ]; exact w_succ (by omega)
      have e : (pre ++ [p]) ++ q :: ddtS q rest = pre ++ p :: q :: ddtS q rest := by simp
      rw [e] at h3
      rw [hd]
      refine ⟨y, (iterN_inl ?_).trans h2, h3⟩
      simp only [compactS_s4, hlt, decide_true, cond_true, cond_false, l1, w1, l2, Option.bind_some, hb, w2]
theorem compactS_is (l : List Tx) (h : l.length ≤ 100000000) : compactS l = some ((), (cptS l, ())) := by
  cases l with
  | nil => rfl
  | cons x l =>
    cases l with
    | nil => rfl
    | cons y l =>
      simp only [List.length_cons] at h
      have hlt : ¬ (((x :: y :: l).length : Nat) : Int) < 2 := by simp; omega
      obtain ⟨z, h1, h2⟩ := phaseS1 (y :: l) x [] fuN (by simp; omega) (by have := fuN_le; simp; omega)
      have h1' : iterN (fun x => compactS_s4 x.1 x.2.1) fuN (x :: y :: l, ((1 : Int), ())) = some z := h1
      simp only [compactS, hlt, decide_false, cond_false, Option.bind_some, h1']
      rcases h2 with rfl | rfl <;> rfl
theorem slEqualS_loop : ∀ (rest rest' pre pre' : List Tx) (n : Nat), pre.length = pre'.length → rest.length = rest'.length → pre.length + rest.length ≤ 100000000 → rest.length < n →
    iterN (fun x => slEqualS_s4 x.1 x.2.1 x.2.2.1 x.2.2.2.1) n (pre ++ rest, (pre' ++ rest', (((pre ++ rest).length : Int), (((pre.length : Nat) : Int), ())))) =
      some (if rest = rest' then .inr () else .inl (false, ())) := by
  intro rest
  induction rest with
  | nil =>
    intro rest' pre pre' n h1 h2 h3 hn
    obtain ⟨n, rfl⟩ := succ_of hn
    have : rest' = [] := List.length_eq_zero_iff.1 (by simpa using h2.symm)
    subst this
    refine iterN_inr ?_
    simp [slEqualS_s4]
  | cons r rest ih =>
    intro rest' pre pre' n h1 h2 h3 hn
    cases rest' with
    | nil => simp at h2
    | cons r' rest' =>
      simp only [List.length_cons, Nat.add_right_cancel_iff] at h2 h3 hn
      obtain ⟨n, rfl⟩ := succ_of hn
      have hlt : ((pre.length : Nat) : Int) < ((pre ++ r :: rest).length : Int) := lt_mid
      have ew : IntKind.i64.wrap (((pre.length : Nat) : Int) + 1) = (((pre ++ [r]).length : Nat) : Int) := w_mid (by omega)
      have hlk : lk (pre' ++ r' :: rest') ((pre.length : Nat) : Int) = some r' := by rw [h1]; exact lk_mid
      by_cases hc : r = r'
      · subst hc
        have hs := ih rest' (pre ++ [r]) (pre' ++ [r]) n (by simp [h1]) h2 (by simp; omega) (by omega)
        rw [← app_mid, ← app_mid] at hs
        have e : (r :: rest = r :: rest') ↔ rest = rest' := by simp
        simp only [e]
        refine (iterN_inl ?_).trans hs
        have hd : (r == r) = true := by simp
        simp only [slEqualS_s4, hlt, decide_true, cond_true, cond_false, lk_mid, hlk, Option.bind_some, hd, Bool.not_true, ew]
      · have e : ¬ (r :: rest = r' :: rest') := fun h => hc (List.cons.inj h).1
        rw [if_neg e]
        refine iterN_inr ?_
        have hd : (r == r') = false := by simp [hc]
        simp only [slEqualS_s4, hlt, decide_true, cond_true, lk_mid, hlk, Option.bind_some, hd, Bool.not_false]
theorem slEqualS_eq' (a b : List Tx) (h : a.length ≤ 50000000) : slEqualS a b = some ((), (decide (a = b), ())) := by
  by_cases hl : a.length = b.length
  · have h1 := slEqualS_loop a b [] [] fuN rfl hl (by simp; omega) (by have := fuN_le; omega)
    have h1' : iterN (fun x => slEqualS_s4 x.1 x.2.1 x.2.2.1 x.2.2.2.1) fuN (a, (b, ((a.length : Int), ((0 : Int), ())))) = some (if a = b then .inr () else .inl (false, ())) := h1
    have hne : ((a.length : Int) != (b.length : Int)) = false := by simp [hl]
    simp only [slEqualS, hne, cond_false, Option.bind_some, h1']
    by_cases hab : a = b <;> simp [hab]
  · have hne : ((a.length : Int) != (b.length : Int)) = true := by simp; omega
    have hab : a ≠ b := fun e => hl (by rw [e])
    simp only [slEqualS, hne, cond_true, Option.bind_some]
    simp [hab]
theorem bl_irrefl : ∀ x : Tx, Op.bytesLess x x = false
  | [] => rfl
  | a :: x => by simp [Op.bytesLess, bl_irrefl x]
theorem bl_trans : ∀ x y z : Tx, Op.bytesLess x y = true → Op.bytesLess y z = true → Op.bytesLess x z = true
  | _, _, [], h1, h2 => by cases h2' : (show Tx from ‹Tx›) <;> simp [Op.bytesLess] at h2
  | [], y, c :: z, h1, h2 => by simp [Op.bytesLess]
  | a :: x, [], c :: z, h1, h2 => by simp [Op.bytesLess] at h1
  | a :: x, b :: y, c :: z, h1, h2 => by
    simp only [Op.bytesLess, Bool.or_eq_true, Bool.and_eq_true, decide_eq_true_eq, beq_iff_eq] at h1 h2 ⊢
    rcases h1 with h1 | ⟨rfl, h1⟩
    · rcases h2 with h2 | ⟨rfl, h2⟩
      · exact .inl (UInt8.lt_trans h1 h2)
      · exact .inl h1
    · rcases h2 with h2 | ⟨rfl, h2⟩
      · exact .inl h2
      · exact .inr ⟨rfl, bl_trans x y z h1 h2⟩
theorem bl_total : ∀ x y : Tx, Op.bytesLess x y = false → Op.bytesLess y x = false → x = y
  | [], [], _, _ => rfl
  | [], b :: y, h1, h2 => by simp [Op.bytesLess] at h1
  | a :: x, [], h1, h2 => by simp [Op.bytesLess] at h2
  | a :: x, b :: y, h1, h2 => by
    simp only [Op.bytesLess, Bool.or_eq_false_iff, Bool.and_eq_false_iff, decide_eq_false_iff_not, beq_eq_false_iff_ne, ne_eq] at h1 h2
    have hab : a = b := by
      have h3 := UInt8.not_lt.1 h1.1
      have h4 := UInt8.not_lt.1 h2.1
      exact UInt8.le_antisymm h4 h3
    subst hab
    rw [bl_total x y (h1.2.resolve_left (fun h => h rfl)) (h2.2.resolve_left (fun h => h rfl))]
theorem s_less_is (x y : Tx) : s_less x y = some ((), (Op.bytesLess x y, ())) := rfl
theorem s_swo : SWO Op.bytesLess where
  irrefl x := bl_irrefl x
  trans x y z h1 h2 := bl_trans x y z h1 h2
  ntrans x y z h1 h2 := by
    cases h : Op.bytesLess x z with
    | false => rfl
    | true =>
      cases h3 : Op.bytesLess y x with
      | true => have := bl_trans y x z h3 h; rw [h2] at this; cases this
      | false =>
        have := bl_total x y h1 h3
        subst this
        rw [h2] at h; cases h
def Ris (l : List Tx) : Prop := l.Pairwise fun x y => Op.bytesLess x y = true
def Wk (l : List Tx) : Prop := l.Pairwise fun x y => Op.bytesLess y x = false
theorem sortS_spec (l : List Tx) (h : l.length ≤ 100000000) : ∃ s, sortS l = some (s, ()) ∧ s.Perm l ∧ Wk s := by
  refine ⟨_, sortG_tie s_less_is s_swo (fun x y h1 h2 => bl_total x y h1 h2) l (by omega) (l.length + 1) (by omega), List.mergeSort_perm _ _, ?_⟩
  have := List.pairwise_mergeSort (le := fun x y : Tx => !Op.bytesLess y x) (fun a b c h1 h2 => by
    simp only [Bool.not_eq_true'] at h1 h2 ⊢
    exact s_swo.ntrans c b a h2 h1) (fun a b => by
    cases h : Op.bytesLess a b with
    | false => simp
    | true =>
      cases h2 : Op.bytesLess b a with
      | false => simp
      | true => have := bl_trans a b a h h2; rw [bl_irrefl] at this; cases this) l
  exact this.imp (fun h => by simpa using h)
theorem ddtS_spec : ∀ (l : List Tx) (u : Tx), Wk (u :: l) → Ris (u :: ddtS u l) ∧ ∀ y, y ∈ u :: ddtS u l ↔ y ∈ u :: l
  | [], u, _ => by simp [ddtS, Ris]
  | r :: l, u, h => by
    obtain ⟨h1, h2⟩ := List.pairwise_cons.1 h
    simp only [ddtS]
    split
    · rename_i e
      subst e
      obtain ⟨h3, h4⟩ := ddtS_spec l r h2
      refine ⟨h3, fun y => ?_⟩
      rw [h4]; simp
    · rename_i e
      obtain ⟨h3, h4⟩ := ddtS_spec l r h2
      have hur : Op.bytesLess u r = true := by
        cases hb : Op.bytesLess u r with
        | true => rfl
        | false => exact absurd (bl_total u r hb (h1 r (by simp))).symm e
      refine ⟨List.pairwise_cons.2 ⟨fun y hy => ?_, h3⟩, fun y => ?_⟩
      · rcases List.mem_cons.1 hy with rfl | hy
        · exact hur
        · exact bl_trans u r y hur ((List.pairwise_cons.1 h3).1 y hy)
      · rw [List.mem_cons, h4]; exact List.mem_cons.symm
theorem cptS_spec {l : List Tx} (h : Wk l) : Ris (cptS l) ∧ ∀ y, y ∈ cptS l ↔ y ∈ l := by
  cases l with
  | nil => exact ⟨List.Pairwise.nil, fun y => Iff.rfl⟩
  | cons x l => exact ddtS_spec l x h
theorem cptS_length (l : List Tx) : (cptS l).length ≤ l.length := by
  cases l with
  | nil => exact Nat.le_refl _
  | cons x l => have := ddtS_length l x; simp only [cptS, List.length_cons]; omega
theorem Ris.ext : ∀ {l m : List Tx}, Ris l → Ris m → (∀ y, y ∈ l ↔ y ∈ m) → l = m
  | [], [], _, _, _ => rfl
  | [], b :: m, _, _, h => by have := (h b).2 (by simp); cases this
  | a :: l, [], _, _, h => by have := (h a).1 (by simp); cases this
  | a :: l, b :: m, h1, h2, h => by
    obtain ⟨g1, g2⟩ := List.pairwise_cons.1 h1
    obtain ⟨k1, k2⟩ := List.pairwise_cons.1 h2
    have hab : a = b := by
      rcases List.mem_cons.1 ((h a).1 (by simp)) with e | e
      · exact e
      · rcases List.mem_cons.1 ((h b).2 (by simp)) with e' | e'
        · exact e'.symm
        · have := bl_trans a b a (g1 b e') (k1 a e)
          rw [bl_irrefl] at this; cases this
    subst hab
    have : l = m := Ris.ext g2 k2 fun y => by
      constructor
      · intro hy
        rcases List.mem_cons.1 ((h y).1 (by simp [hy])) with e | e
        · subst e
          have := g1 y hy
          rw [bl_irrefl] at this; cases this
        · exact e
      · intro hy
        rcases List.mem_cons.1 ((h y).2 (by simp [hy])) with e | e
        · subst e
          have := k1 y hy
          rw [bl_irrefl] at this; cases this
        · exact e
    rw [this]
abbrev TSet := List (Int × Int) × (List (Int × Int) × List Tx)
def R (t : Tx) : List Int := runes (u8s t)
def gd (t : Tx) : Bool := s8u (enc (R t)) == t
def hd (t : Tx) : Int := (R t).headD 0
def oddB (t : Tx) : Bool := gd t && decide (1 < (R t).length)
theorem bytes_u8s (t : Tx) : Bytes (u8s t) := fun x hx => by
  obtain ⟨c, _, rfl⟩ := List.mem_map.1 hx
  exact ⟨by omega, by have := c.toNat_lt; omega⟩
theorem u8s_length (t : Tx) : (u8s t).length = t.length := by simp [u8s]
theorem R_length (t : Tx) : (R t).length ≤ t.length := by
  have := runes_length (u8s t)
  rw [u8s_length] at this
  exact this
theorem read_loop (t : Tx) (l0 : List Pt) : ∀ (rest pre : List Pt) (g : List Int) (n : Nat), pre.length + rest.length ≤ 20000000 → g.length + rest.length ≤ 20000000 → rest.length < n →
    iterN (fun x => sRead_s6 x.1 x.2.1 x.2.2.1 x.2.2.2.1 x.2.2.2.2.1 x.2.2.2.2.2.1) n (t, (l0, (g, (pre ++ rest, (((pre ++ rest).length : Int), (((pre.length : Nat) : Int), ())))))) = some (t, (l0, (g ++ rest.map (·.1), ()))) := by
  intro rest
  induction rest with
  | nil =>
    intro pre g n h1 h2 hn
    obtain ⟨n, rfl⟩ := succ_of hn
    refine iterN_inr ?_
    simp [sRead_s6]
  | cons r rest ih =>
    intro pre g n h1 h2 hn
    simp only [List.length_cons] at h1 h2 hn
    obtain ⟨n, rfl⟩ := succ_of hn
    have hlt : ((pre.length : Nat) : Int) < ((pre ++ r :: rest).length : Int) := lt_mid
    have ew : IntKind.i64.wrap (((pre.length : Nat) : Int) + 1) = (((pre ++ [r]).length : Nat) : Int) := w_mid (by omega)
    have hs := ih (pre ++ [r]) (g ++ [r.1]) n (by simp; omega) (by simp; omega) (by omega)
    rw [show (pre ++ [r]) ++ rest = pre ++ r :: rest by simp, show (g ++ [r.1]) ++ rest.map (·.1) = g ++ (r :: rest).map (·.1) by simp] at hs
    have hr : roomOk (g.length + [r.1].length) 4 = true := by simp [roomOk]; omega
    refine (iterN_inl ?_).trans hs
    simp only [sRead_s6, hlt, decide_true, cond_true, lk_mid, Option.bind_some, hr, ew]
theorem sRead_is (t : Tx) (h : t.length ≤ 10000000) : sRead t = some ((), (hd t, (((R t).length : Int), (gd t, ())))) := by
  have hb := bytes_u8s t
  have hl := u8s_length t
  have hd1 := utfDecode_is (u8s t) hb (by omega)
  have hpl := pts_length (u8s t).length (u8s t) 0
  have hR : R t = (pts (u8s t).length (u8s t) 0).map (·.1) := rfl
  have hRl := R_length t
  simp only [sRead, hd1, Option.bind_some]
  unfold gd hd
  cases hp : pts (u8s t).length (u8s t) 0 with
  | nil =>
    rw [hp] at hR
    have ht : t = [] := by
      cases t with
      | nil => rfl
      | cons c t => simp [u8s, pts] at hp
    subst ht
    rw [hR]
    rfl
  | cons p l =>
    rw [hp] at hR hpl
    have h0 : ((((p :: l).length : Nat) : Int) == (0 : Int)) = false := by simp; omega
    have h1 := read_loop t (p :: l) (p :: l) [] [] fuN (by simp at hpl ⊢; omega) (by simp at hpl ⊢; omega) (by have := fuN_le; simp at hpl ⊢; omega)
    rw [← hR] at h1
    have h1' : iterN (fun x => sRead_s6 x.1 x.2.1 x.2.2.1 x.2.2.2.1 x.2.2.2.2.1 x.2.2.2.2.2.1) fuN (t, (p :: l, (([] : List Int), (p :: l, (((p :: l).length : Int), ((0 : Int), ())))))) = some (t, (p :: l, (R t, ()))) := h1
    have hlk : lk (p :: l) (0 : Int) = some p := rfl
    have he := utfEncode_is (R t) (by omega)
    simp only [h0, cond_false, Option.bind_some, h1', hlk, he]
    rw [hR]
    simp
theorem good6_is (t : Tx) (h : t.length ≤ 10000000) : good6 t = some ((), (gd t, ())) := by
  have h1 := runes1_is (u8s t) (bytes_u8s t) (by rw [u8s_length]; exact h)
  have h2 := encode1_is (R t) (by have := R_length t; omega)
  simp only [good6, h1, Option.bind_some]
  have h2' : encode1 (runes (u8s t)) = some ((), (enc (R t), ())) := h2
  simp only [h2', Option.bind_some]
  rfl
theorem idx_loop (t : Tx) (L : Int) : ∀ (rest pre : List Tx) (n : Nat), pre.length + rest.length ≤ 100000000 → L = ((pre ++ rest).length : Int) → rest.length < n →
    ∃ y, iterN (fun x => indexS_s2 x.1 x.2.1 x.2.2.1 x.2.2.2.1) n (pre ++ rest, (t, (L, (((pre.length : Nat) : Int), ())))) = some y ∧
      ((t ∈ rest ∧ ∃ i : Nat, y = .inl ((i : Int), ())) ∨ (t ∉ rest ∧ y = .inr ())) := by
  intro rest
  induction rest with
  | nil =>
    intro pre n h1 hL hn
    obtain ⟨n, rfl⟩ := succ_of hn
    subst hL
    refine ⟨_, iterN_inr ?_, .inr ⟨by simp, rfl⟩⟩
    simp [indexS_s2]
  | cons r rest ih =>
    intro pre n h1 hL hn
    simp only [List.length_cons] at h1 hn
    obtain ⟨n, rfl⟩ := succ_of hn
    have hlt : ((pre.length : Nat) : Int) < L := by rw [hL]; exact lt_mid
    have ew : IntKind.i64.wrap (((pre.length : Nat) : Int) + 1) = (((pre ++ [r]).length : Nat) : Int) := w_mid (by omega)
    obtain ⟨y, h2, h3⟩ := ih (pre ++ [r]) n (by simp; omega) (by rw [hL]; simp) (by omega)
    rw [← app_mid] at h2
    by_cases hc : t = r
    · subst hc
      refine ⟨_, iterN_inr (y := .inl (((pre.length : Nat) : Int), ())) ?_, .inl ⟨by simp, _, rfl⟩⟩
      simp only [indexS_s2, hlt, decide_true, cond_true, lk_mid, Option.bind_some, beq_self_eq_true]
    · have hb : (t == r) = false := by simp [hc]
      refine ⟨y, (iterN_inl ?_).trans h2, ?_⟩
      · simp only [indexS_s2, hlt, decide_true, cond_true, cond_false, lk_mid, Option.bind_some, hb, ew]
      · rcases h3 with ⟨h3, h4⟩ | ⟨h3, h4⟩
        · exact .inl ⟨by simp [h3], h4⟩
        · exact .inr ⟨by simp [hc, h3], h4⟩
theorem containsS_is (l : List Tx) (t : Tx) (h : l.length ≤ 50000000) : containsS l t = some ((), (decide (t ∈ l), ())) := by
  obtain ⟨y, h1, h2⟩ := idx_loop t (l.length : Int) l [] fuN (by simp; omega) rfl (by have := fuN_le; omega)
  have h1' : iterN (fun x => indexS_s2 x.1 x.2.1 x.2.2.1 x.2.2.2.1) fuN (l, (t, ((l.length : Int), ((0 : Int), ())))) = some y := h1
  rcases h2 with ⟨h2, i, rfl⟩ | ⟨h2, rfl⟩
  · have : (i : Int) ≥ 0 := by omega
    simp only [containsS, indexS, h1', Option.bind_some, h2, this, decide_true]
  · have : ¬ ((-1 : Int) ≥ 0) := by decide
    simp only [containsS, indexS, h1', Option.bind_some, h2, this, decide_false]
def hasS (s : TSet) (t : Tx) : Bool := match R t with
  | [] => false
  | [r] => hv s.1 r
  | r :: _ :: _ => hv s.2.1 r != decide (t ∈ s.2.2)
def OkS (n : Nat) (s : TSet) : Prop := s.1.length ≤ 2000000 ∧ s.2.1.length ≤ 2000000 ∧ s.2.2.length ≤ n ∧ ∀ t ∈ s.2.2, t.length ≤ 10000000
theorem sHas_is (s : TSet) (t : Tx) (h1 : s.1.length ≤ 2000000) (h2 : s.2.1.length ≤ 2000000) (h3 : s.2.2.length ≤ 50000000) (ht : t.length ≤ 10000000) : sHas s t = some ((), (hasS s t, ())) := by
  simp only [sHas, sRead_is t ht, Option.bind_some]
  unfold hasS hd
  cases hR : R t with
  | nil => rfl
  | cons r l =>
    cases l with
    | nil =>
      have e0 : (((([r] : List Int).length : Nat) : Int) == (0 : Int)) = false := rfl
      have e1 : (((([r] : List Int).length : Nat) : Int) == (1 : Int)) = true := rfl
      simp only [e0, e1, cond_false, cond_true, List.headD_cons, rHas_is s.1 r (by omega), Option.bind_some]
    | cons q l =>
      have e0 : ((((r :: q :: l).length : Nat) : Int) == (0 : Int)) = false := by simp; omega
      have e1 : ((((r :: q :: l).length : Nat) : Int) == (1 : Int)) = false := by simp; omega
      simp only [e0, e1, cond_false, Option.bind_some, List.headD_cons, rHas_is s.2.1 r (by omega), containsS_is s.2.2 t h3]
      rfl
theorem has6_loop (t : Tx) (s : TSet) (b : Bool) : ∀ (rest pre : List Tx) (n : Nat), s.2.2 = pre ++ rest → pre.length + rest.length ≤ 100000000 → rest.length < n →
    iterN (fun x => has6_s13 x.1 x.2.1 x.2.2.1 x.2.2.2.1) n (t, (s, (b, (((pre.length : Nat) : Int), ())))) = some (if t ∈ rest then .inl (!b, ()) else .inr (b, ())) := by
  intro rest
  induction rest with
  | nil =>
    intro pre n hs h1 hn
    obtain ⟨n, rfl⟩ := succ_of hn
    have h0 : ¬ ((pre.length : Nat) : Int) < (s.2.2.length : Int) := by rw [hs]; simp
    refine iterN_inr ?_
    simp only [has6_s13, h0, decide_false, cond_false, Option.bind_some]
    simp
  | cons r rest ih =>
    intro pre n hs h1 hn
    simp only [List.length_cons] at h1 hn
    obtain ⟨n, rfl⟩ := succ_of hn
    have h0 : ((pre.length : Nat) : Int) < (s.2.2.length : Int) := by rw [hs]; simp; omega
    have hlk : lk s.2.2 ((pre.length : Nat) : Int) = some r := by rw [hs]; exact lk_mid
    have ew : IntKind.i64.wrap (((pre.length : Nat) : Int) + 1) = (((pre ++ [r]).length : Nat) : Int) := w_mid (by omega)
    by_cases hc : r = t
    · subst hc
      rw [if_pos (by simp)]
      refine iterN_inr ?_
      simp only [has6_s13, h0, decide_true, cond_true, Option.bind_some, hlk, beq_self_eq_true]
    · have hb : (r == t) = false := by simp [hc]
      have hm : (t ∈ r :: rest) ↔ t ∈ rest := by simp [Ne.symm hc]
      have hs' := ih (pre ++ [r]) n (by rw [hs]; simp) (by simp; omega) (by omega)
      simp only [hm]
      refine (iterN_inl ?_).trans hs'
      simp only [has6_s13, h0, decide_true, cond_true, cond_false, Option.bind_some, hlk, hb, ew]
theorem has6_is (s : TSet) (t : Tx) (h1 : s.1.length ≤ 2000000) (h2 : s.2.1.length ≤ 2000000) (h3 : s.2.2.length ≤ 50000000) (ht : t.length ≤ 10000000) : has6 s t = some ((), (hasS s t, ())) := by
  have hr := runes1_is (u8s t) (bytes_u8s t) (by rw [u8s_length]; exact ht)
  have hr' : runes1 (u8s t) = some ((), (R t, ())) := hr
  simp only [has6, hr', Option.bind_some]
  unfold hasS
  cases hR : R t with
  | nil => rfl
  | cons r l =>
    have hlk : lk (r :: l) (0 : Int) = some r := rfl
    have e0 : ((((r :: l).length : Nat) : Int) == (0 : Int)) = false := by simp; omega
    cases l with
    | nil =>
      have e1 : (((([r] : List Int).length : Nat) : Int) == (1 : Int)) = true := rfl
      simp only [e0, e1, cond_false, cond_true, Option.bind_some, hlk, refHas_is s.1 r (by omega)]
    | cons q l =>
      have e1 : ((((r :: q :: l).length : Nat) : Int) == (1 : Int)) = false := by simp; omega
      have hl := has6_loop t s (hv s.2.1 r) s.2.2 [] fuN rfl (by simp; omega) (by have := fuN_le; omega)
      have hl' : iterN (fun x => has6_s13 x.1 x.2.1 x.2.2.1 x.2.2.2.1) fuN (t, (s, (hv s.2.1 r, ((0 : Int), ())))) = some (if t ∈ s.2.2 then .inl (!hv s.2.1 r, ()) else .inr (hv s.2.1 r, ())) := hl
      simp only [e0, e1, cond_false, Option.bind_some, hlk, refHas_is s.2.1 r (by omega), hl']
      by_cases hm : t ∈ s.2.2
      · simp only [hm, decide_true]
        cases hv s.2.1 r <;> rfl
      · simp only [hm, decide_false]
        cases hv s.2.1 r <;> rfl
def srt8 (l : List Tx) : List Tx := l.mergeSort fun x y => !Op.bytesLess y x
def oddL (l : List Tx) : List Tx := cptS (srt8 (l.filter oddB))
theorem sortS_is (l : List Tx) (h : l.length ≤ 100000000) : sortS l = some (srt8 l, ()) :=
  sortG_tie s_less_is s_swo (fun x y h1 h2 => bl_total x y h1 h2) l (by omega) (l.length + 1) (by omega)
theorem srt8_ok (l : List Tx) (h : l.length ≤ 100000000) : (srt8 l).Perm l ∧ Wk (srt8 l) := by
  obtain ⟨s, h1, h2, h3⟩ := sortS_spec l h
  rw [sortS_is l h] at h1
  cases h1
  exact ⟨h2, h3⟩
theorem oddL_spec (l : List Tx) (h : l.length ≤ 100000000) : Ris (oddL l) ∧ ∀ t, t ∈ oddL l ↔ t ∈ l ∧ oddB t = true := by
  have hl := List.length_filter_le oddB l
  obtain ⟨h1, h2⟩ := srt8_ok (l.filter oddB) (by omega)
  obtain ⟨h3, h4⟩ := cptS_spec h2
  refine ⟨h3, fun t => ?_⟩
  unfold oddL
  rw [h4, h1.mem_iff, List.mem_filter]
theorem oddL_length (l : List Tx) (h : l.length ≤ 100000000) : (oddL l).length ≤ l.length := by
  have hl := List.length_filter_le oddB l
  obtain ⟨h1, _⟩ := srt8_ok (l.filter oddB) (by omega)
  have := cptS_length (srt8 (l.filter oddB))
  rw [h1.length_eq] at this
  exact Nat.le_trans this hl
theorem oddL_same {l : List Tx} (h : l.length ≤ 100000000) (h1 : Ris l) (h2 : ∀ t ∈ l, oddB t = true) : oddL l = l := by
  obtain ⟨g1, g2⟩ := oddL_spec l h
  exact Ris.ext g1 h1 fun y => by rw [g2]; exact ⟨fun h => h.1, fun h => ⟨h, h2 y h⟩⟩
theorem odd_loop : ∀ (rest pre g : List Tx) (n : Nat), (∀ t ∈ rest, t.length ≤ 10000000) → pre.length + rest.length ≤ 100000000 → g.length + rest.length ≤ 100000000 → rest.length < n →
    iterN (fun x => sOdd_s3 x.1 x.2.1 x.2.2.1 x.2.2.2.1) n (g, (pre ++ rest, (((pre ++ rest).length : Int), (((pre.length : Nat) : Int), ())))) = some (g ++ rest.filter oddB, ()) := by
  intro rest
  induction rest with
  | nil =>
    intro pre g n ht h1 h2 hn
    obtain ⟨n, rfl⟩ := succ_of hn
    refine iterN_inr ?_
    simp [sOdd_s3]
  | cons r rest ih =>
    intro pre g n ht h1 h2 hn
    simp only [List.length_cons] at h1 h2 hn
    obtain ⟨n, rfl⟩ := succ_of hn
    have hlt : ((pre.length : Nat) : Int) < ((pre ++ r :: rest).length : Int) := lt_mid
    have ew : IntKind.i64.wrap (((pre.length : Nat) : Int) + 1) = (((pre ++ [r]).length : Nat) : Int) := w_mid (by omega)
    have hrd := sRead_is r (ht r (by simp))
    have hr : roomOk (g.length + [r].length) 16 = true := by simp [roomOk]; omega
    have hgt : decide ((((R r).length : Nat) : Int) > (1 : Int)) = decide (1 < (R r).length) := by
      by_cases h : 1 < (R r).length
      · rw [decide_eq_true h, decide_eq_true (by omega)]
      · rw [decide_eq_false h, decide_eq_false (by omega)]
    cases ho : oddB r with
    | true =>
      have ho' := ho
      simp only [oddB, Bool.and_eq_true] at ho'
      have hs := ih (pre ++ [r]) (g ++ [r]) n (fun t h => ht t (by simp [h])) (by simp; omega) (by simp; omega) (by omega)
      rw [show (pre ++ [r]) ++ rest = pre ++ r :: rest by simp, show (g ++ [r]) ++ rest.filter oddB = g ++ (r :: rest).filter oddB by simp [ho]] at hs
      refine (iterN_inl ?_).trans hs
      simp only [sOdd_s3, hlt, decide_true, cond_true, lk_mid, Option.bind_some, hrd, ho'.1, hgt, ho'.2, hr, ew]
    | false =>
      have hs := ih (pre ++ [r]) g n (fun t h => ht t (by simp [h])) (by simp; omega) (by omega) (by omega)
      rw [show (pre ++ [r]) ++ rest = pre ++ r :: rest by simp, show rest.filter oddB = (r :: rest).filter oddB by simp [ho]] at hs
      refine (iterN_inl ?_).trans hs
      cases hg : gd r with
      | false => simp only [sOdd_s3, hlt, decide_true, cond_true, cond_false, lk_mid, Option.bind_some, hrd, hg, ew]
      | true =>
        have hn1 : decide (1 < (R r).length) = false := by
          unfold oddB at ho
          rw [hg] at ho
          simpa using ho
        simp only [sOdd_s3, hlt, decide_true, cond_true, cond_false, lk_mid, Option.bind_some, hrd, hg, hgt, hn1, ew]
theorem sOdd_is (l : List Tx) (h : l.length ≤ 50000000) (ht : ∀ t ∈ l, t.length ≤ 10000000) : sOdd l = some ((), (oddL l, ())) := by
  have h1 := odd_loop l [] [] fuN ht (by simp; omega) (by simp; omega) (by have := fuN_le; omega)
  have h1' : iterN (fun x => sOdd_s3 x.1 x.2.1 x.2.2.1 x.2.2.2.1) fuN (([] : List Tx), (l, ((l.length : Int), ((0 : Int), ())))) = some (l.filter oddB, ()) := h1
  have hl := List.length_filter_le oddB l
  have h2 := sortS_is (l.filter oddB) (by omega)
  have hp := (srt8_ok (l.filter oddB) (by omega)).1
  have h3 := compactS_is (srt8 (l.filter oddB)) (by rw [hp.length_eq]; omega)
  simp only [sOdd, h1', Option.bind_some, h2, h3]
  rfl
noncomputable def normS (s : TSet) : TSet := (norm s.1, (norm s.2.1, oddL s.2.2))
theorem sNorm_is (s : TSet) (h1 : s.1.length ≤ 2000000) (h2 : s.2.1.length ≤ 2000000) (h3 : s.2.2.length ≤ 50000000) (ht : ∀ t ∈ s.2.2, t.length ≤ 10000000) : sNorm s = some ((), (normS s, ())) := by
  simp only [sNorm, rNorm_eq' s.1 (by omega), rNorm_eq' s.2.1 (by omega), sOdd_is s.2.2 h3 ht, Option.bind_some]
  rfl
theorem sSame_is (a b : TSet) (h1 : a.1.length ≤ 2000000) (h2 : a.2.1.length ≤ 2000000) (h3 : a.2.2.length ≤ 50000000) : sSame a b = some ((), (decide (a = b), ())) := by
  obtain ⟨a1, a2, a3⟩ := a
  obtain ⟨b1, b2, b3⟩ := b
  simp only at h1 h2 h3
  simp only [sSame, slEqual_eq' a1 b1 (by omega), Option.bind_some]
  by_cases c1 : a1 = b1
  · simp only [c1, decide_true, cond_true, slEqual_eq' a2 b2 (by omega), Option.bind_some]
    by_cases c2 : a2 = b2
    · simp only [c2, decide_true, cond_true, slEqualS_eq' a3 b3 (by omega), Option.bind_some]
      by_cases c3 : a3 = b3 <;> simp [c3]
    · simp [c2]
  · simp [c1]
theorem norm_len (l : List Rg) : (norm l).length ≤ 1114113 := nrm_len (norm_spec l).1
structure NrS (s : TSet) : Prop where
  one : Nrm s.1
  mul : Nrm s.2.1
  ris : Ris s.2.2
  odd : ∀ t ∈ s.2.2, oddB t = true
  len : s.2.2.length ≤ 100000000
def inr (x : Int) : Bool := decide (0 ≤ x) && decide (x ≤ 1114111)
theorem normS_nr (s : TSet) (h : s.2.2.length ≤ 100000000) : NrS (normS s) := by
  obtain ⟨h1, h2⟩ := oddL_spec s.2.2 h
  exact ⟨(norm_spec s.1).1, (norm_spec s.2.1).1, h1, fun t ht => ((h2 t).1 ht).2, Nat.le_trans (oddL_length s.2.2 h) h⟩
theorem normS_same {s : TSet} (h : NrS s) : normS s = s := by
  obtain ⟨s1, s2, s3⟩ := s
  show (norm s1, (norm s2, oddL s3)) = _
  rw [norm_nrm h.one, norm_nrm h.mul, oddL_same h.len h.ris h.odd]
theorem sMay_is (s : TSet) (h : OkS 20000000 s) : sMay s = some ((), (decide (normS s = s), ())) := by
  obtain ⟨h1, h2, h3, h4⟩ := h
  have n1 := norm_len s.1; have n2 := norm_len s.2.1
  have n3 := oddL_length s.2.2 (by omega)
  simp only [sMay, sNorm_is s h1 h2 (by omega) h4, Option.bind_some]
  rw [sSame_is (normS s) s (by show (norm s.1).length ≤ _; omega) (by show (norm s.2.1).length ≤ _; omega) (by show (oddL s.2.2).length ≤ _; omega)]
  rfl
def noS : TSet := ([], ([], []))
theorem no_nr : NrS noS := ⟨trivial, trivial, List.Pairwise.nil, fun t h => (by cases h), by decide⟩
theorem sameTexts_loop : ∀ (rest rest' pre pre' : List Tx) (n : Nat), pre.length = pre'.length → rest.length = rest'.length → pre.length + rest.length ≤ 100000000 → rest.length < n →
    iterN (fun x => sameTexts_s4 x.1 x.2.1 x.2.2.1) n (pre ++ rest, (pre' ++ rest', (((pre.length : Nat) : Int), ()))) = some (if rest = rest' then .inr () else .inl (false, ())) := by
  intro rest
  induction rest with
  | nil =>
    intro rest' pre pre' n h1 h2 h3 hn
    obtain ⟨n, rfl⟩ := succ_of hn
    have : rest' = [] := List.length_eq_zero_iff.1 (by simpa using h2.symm)
    subst this
    refine iterN_inr ?_
    simp [sameTexts_s4]
  | cons r rest ih =>
    intro rest' pre pre' n h1 h2 h3 hn
    cases rest' with
    | nil => simp at h2
    | cons r' rest' =>
      simp only [List.length_cons, Nat.add_right_cancel_iff] at h2 h3 hn
      obtain ⟨n, rfl⟩ := succ_of hn
      have hlt : ((pre.length : Nat) : Int) < ((pre ++ r :: rest).length : Int) := lt_mid
      have ew : IntKind.i64.wrap (((pre.length : Nat) : Int) + 1) = (((pre ++ [r]).length : Nat) : Int) := w_mid (by omega)
      have hlk : lk (pre' ++ r' :: rest') ((pre.length : Nat) : Int) = some r' := by rw [h1]; exact lk_mid
      by_cases hc : r = r'
      · subst hc
        have hs := ih rest' (pre ++ [r]) (pre' ++ [r]) n (by simp [h1]) h2 (by simp; omega) (by omega)
        rw [← app_mid, ← app_mid] at hs
        have e : (r :: rest = r :: rest') ↔ rest = rest' := by simp
        simp only [e]
        refine (iterN_inl ?_).trans hs
        simp only [sameTexts_s4, hlt, decide_true, cond_true, cond_false, lk_mid, hlk, Option.bind_some, beq_self_eq_true, Bool.not_true, ew]
      · have e : ¬ (r :: rest = r' :: rest') := fun h => hc (List.cons.inj h).1
        rw [if_neg e]
        refine iterN_inr ?_
        have hd : (r == r') = false := by simp [hc]
        simp only [sameTexts_s4, hlt, decide_true, cond_true, lk_mid, hlk, Option.bind_some, hd, Bool.not_false]
theorem sameTexts_is (a b : List Tx) (h : a.length ≤ 50000000) : sameTexts a b = some ((), (decide (a = b), ())) := by
  by_cases hl : a.length = b.length
  · have h1 := sameTexts_loop a b [] [] fuN rfl hl (by simp; omega) (by have := fuN_le; omega)
    have h1' : iterN (fun x => sameTexts_s4 x.1 x.2.1 x.2.2.1) fuN (a, (b, ((0 : Int), ()))) = some (if a = b then .inr () else .inl (false, ())) := h1
    have hne : ((a.length : Int) != (b.length : Int)) = false := by simp [hl]
    simp only [sameTexts, hne, cond_false, Option.bind_some, h1']
    by_cases hab : a = b <;> simp [hab]
  · have hne : ((a.length : Int) != (b.length : Int)) = true := by simp; omega
    have hab : a ≠ b := fun e => hl (by rw [e])
    simp only [sameTexts, hne, cond_true, Option.bind_some]
    simp [hab]
theorem same6_is (a b : TSet) (h1 : a.1.length ≤ 2000000) (h2 : a.2.1.length ≤ 2000000) (h3 : a.2.2.length ≤ 50000000) : same6 a b = some ((), (decide (a = b), ())) := by
  obtain ⟨a1, a2, a3⟩ := a
  obtain ⟨b1, b2, b3⟩ := b
  simp only at h1 h2 h3
  simp only [same6, refSame_is a1 b1 (by omega), Option.bind_some]
  by_cases c1 : a1 = b1
  · simp only [c1, decide_true, cond_true, refSame_is a2 b2 (by omega), Option.bind_some]
    by_cases c2 : a2 = b2
    · simp only [c2, decide_true, cond_true, sameTexts_is a3 b3 (by omega), Option.bind_some]
      by_cases c3 : a3 = b3 <;> simp [c3]
    · simp [c2]
  · simp [c1]
end Go.Vt.Pk
