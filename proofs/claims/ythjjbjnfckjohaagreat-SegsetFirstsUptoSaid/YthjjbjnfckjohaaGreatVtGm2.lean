/- The printed functions of the sets of numbers, plainly told: the normal list. -/
import Derived.Test.YthjjbjnfckjohaaGreatVtSg1
import Derived.Test.YthjjbjnfckjohaaGreatVtGm1
set_option linter.unusedVariables false
set_option maxRecDepth 100000
namespace Go.Vt.Sg
open Go Go.Vt Go.Vt.Rm Go.Sort Go.Vt.Srt

theorem lk_mid {α : Type} {pre rest : List α} {x : α} : lk (pre ++ x :: rest) ((pre.length : Nat) : Int) = some x := by
  unfold lk
  rw [if_pos (by omega)]
  simp
theorem set_mid {α : Type} {o : List α} {z w : α} : (o ++ [z]).set o.length w = o ++ [w] := by simp
theorem room8 {n : Nat} (h : n ≤ 1000000000) : roomOk n 8 = true := by
  unfold roomOk
  simp only [decide_eq_true_eq]
  omega
theorem wrap32 {x : Int} (h1 : -2147483648 ≤ x) (h2 : x < 2147483648) : IntKind.i32.wrap x = x := by
  simp only [IntKind.wrap, IntKind.signed, IntKind.bits]
  simp
  omega
theorem app_mid {α : Type} {pre rest : List α} {x : α} : pre ++ x :: rest = (pre ++ [x]) ++ rest := by simp
theorem len_succ {α : Type} {pre : List α} {x : α} : (pre ++ [x]).length = pre.length + 1 := by simp

theorem lt_mid {α : Type} {pre rest : List α} {x : α} : ((pre.length : Nat) : Int) < ((pre ++ x :: rest).length : Int) := by simp; omega
theorem w_mid {α : Type} {pre : List α} {x : α} (h : pre.length ≤ 200000000) : IntKind.i64.wrap (((pre.length : Nat) : Int) + 1) = (((pre ++ [x]).length : Nat) : Int) := by
  rw [len_succ]
  exact w_succ (by omega)
theorem w_last {α : Type} {o : List α} {z : α} (h : o.length ≤ 200000000) : IntKind.i64.wrap ((((o ++ [z]).length : Nat) : Int) - 1) = ((o.length : Nat) : Int) := by
  rw [len_succ]
  exact w_pred (by omega)

theorem clip_loop : ∀ (rest pre g : List Rg) (n : Nat), pre.length + rest.length ≤ 100000000 → g.length + rest.length ≤ 100000000 → rest.length < n →
    iterN (fun x => rNorm_s3 x.1 x.2.1 x.2.2.1 x.2.2.2.1) n (g, (pre ++ rest, (((pre ++ rest).length : Int), (((pre.length : Nat) : Int), ())))) = some (g ++ clipL rest, ()) := by
  intro rest
  induction rest with
  | nil =>
    intro pre g n h1 h2 hn
    obtain ⟨n, rfl⟩ := succ_of hn
    refine iterN_inr ?_
    simp [rNorm_s3, clipL]
  | cons r rest ih =>
    intro pre g n h1 h2 hn
    simp only [List.length_cons] at h1 h2 hn
    obtain ⟨n, rfl⟩ := succ_of hn
    have hlt : ((pre.length : Nat) : Int) < ((pre ++ r :: rest).length : Int) := lt_mid
    have ew : IntKind.i64.wrap (((pre.length : Nat) : Int) + 1) = (((pre ++ [r]).length : Nat) : Int) := w_mid (by omega)
    by_cases hc : (clip1 r).1 ≤ (clip1 r).2
    · have e : g ++ clipL (r :: rest) = (g ++ [clip1 r]) ++ clipL rest := by
        simp [clipL, hc]
      have hs := ih (pre ++ [r]) (g ++ [clip1 r]) n (by simp; omega) (by simp; omega) (by omega)
      rw [e]
      rw [← app_mid] at hs
      refine (iterN_inl ?_).trans hs
      have hc' : (decide ((if (0 : Int) > r.1 then (0 : Int) else r.1) ≤ (if (1114111 : Int) < r.2 then (1114111 : Int) else r.2))) = true := by
        simp only [decide_eq_true_eq]; exact hc
      have hr : roomOk (g.length + [((if (0 : Int) > r.1 then (0 : Int) else r.1), (if (1114111 : Int) < r.2 then (1114111 : Int) else r.2))].length) 8 = true := room8 (by simp; omega)
      simp only [rNorm_s3, hlt, decide_true, cond_true, lk_mid, Option.bind_some, hc', hr, ew]
      rfl
    · have e : g ++ clipL (r :: rest) = g ++ clipL rest := by
        simp [clipL, hc]
      have hs := ih (pre ++ [r]) g n (by simp; omega) (by omega) (by omega)
      rw [e]
      rw [← app_mid] at hs
      refine (iterN_inl ?_).trans hs
      have hc' : (decide ((if (0 : Int) > r.1 then (0 : Int) else r.1) ≤ (if (1114111 : Int) < r.2 then (1114111 : Int) else r.2))) = false := by
        simp only [decide_eq_false_iff_not]; exact hc
      simp only [rNorm_s3, hlt, decide_true, cond_true, cond_false, lk_mid, Option.bind_some, hc', ew]

theorem merge_loop : ∀ (rest pre o : List Rg) (z : Rg) (n : Nat), pre.length + rest.length ≤ 100000000 → o.length + rest.length ≤ 100000000 → Valid (z :: rest) → rest.length < n →
    iterN (fun x => rNorm_s11 x.1 x.2.1 x.2.2.1 x.2.2.2.1) n (o ++ [z], (pre ++ rest, (((pre ++ rest).length : Int), (((pre.length : Nat) : Int), ())))) = some (o ++ mergeC z rest, ()) := by
  intro rest
  induction rest with
  | nil =>
    intro pre o z n h1 h2 hv hn
    obtain ⟨n, rfl⟩ := succ_of hn
    refine iterN_inr ?_
    simp [rNorm_s11, mergeC]
  | cons r rest ih =>
    intro pre o z n h1 h2 hv hn
    simp only [List.length_cons] at h1 h2 hn
    obtain ⟨n, rfl⟩ := succ_of hn
    have hz := hv z (by simp)
    have hr := hv r (by simp)
    have hlt : ((pre.length : Nat) : Int) < ((pre ++ r :: rest).length : Int) := lt_mid
    have ew : IntKind.i64.wrap (((pre.length : Nat) : Int) + 1) = (((pre ++ [r]).length : Nat) : Int) := w_mid (by omega)
    have hg0 : (((o ++ [z]).length : Nat) : Int) > 0 := by simp
    have el : IntKind.i64.wrap ((((o ++ [z]).length : Nat) : Int) - 1) = ((o.length : Nat) : Int) := w_last (by omega)
    have ez : IntKind.i32.wrap (z.2 + 1) = z.2 + 1 := wrap32 (by omega) (by omega)
    have hlk : lk (o ++ [z]) ((o.length : Nat) : Int) = some z := lk_mid
    simp only [mergeC]
    by_cases hc : r.1 ≤ z.2 + 1
    · rw [if_pos hc]
      have hs := ih (pre ++ [r]) o (z.1, if r.2 > z.2 then r.2 else z.2) n (by simp; omega) (by omega) (fun q hq => by
        rcases List.mem_cons.1 hq with rfl | hq
        · simp only
          refine ⟨hz.1, ?_, ?_⟩ <;> split <;> omega
        · exact hv q (by simp [hq])) (by omega)
      rw [← app_mid] at hs
      refine (iterN_inl ?_).trans hs
      simp only [rNorm_s11, hlt, decide_true, cond_true, lk_mid, Option.bind_some, hg0, el, hlk, ez, hc, Int.toNat_natCast, set_mid, ew]
    · rw [if_neg hc]
      have hs := ih (pre ++ [r]) (o ++ [z]) r n (by simp; omega) (by simp; omega) (fun q hq => hv q (by simp at hq ⊢; exact .inr hq)) (by omega)
      rw [show (pre ++ [r]) ++ rest = pre ++ r :: rest by simp] at hs
      have e : (o ++ [z]) ++ mergeC r rest = o ++ z :: mergeC r rest := by simp
      rw [e] at hs
      refine (iterN_inl ?_).trans hs
      have hrm : roomOk ((o ++ [z]).length + [r].length) 8 = true := room8 (by simp; omega)
      simp only [rNorm_s11, hlt, decide_true, decide_false, cond_true, cond_false, lk_mid, Option.bind_some, hg0, el, hlk, ez, hc, hrm, ew]

theorem merge_all (s : List Rg) (hs : s.length ≤ 50000000) (hv : Valid s) :
    iterN (fun x => rNorm_s11 x.1 x.2.1 x.2.2.1 x.2.2.2.1) fuelN (([] : List (Int × Int)), (s, ((s.length : Int), ((0 : Int), ())))) = some (mergeL s, ()) := by
  cases s with
  | nil =>
    obtain ⟨n, hn⟩ := succ_of (show 0 < fuelN by have := fuelN_le; omega)
    rw [hn]
    refine iterN_inr ?_
    simp [rNorm_s11, mergeL]
  | cons r rest =>
    simp only [List.length_cons] at hs
    obtain ⟨n, hn⟩ := succ_of (show 0 < fuelN by have := fuelN_le; omega)
    have hn' : rest.length < n := by have := fuelN_le; omega
    rw [hn]
    have h1 := merge_loop rest [r] [] r n (by simp; omega) (by simp; omega) hv hn'
    refine (iterN_inl ?_).trans h1
    have hlt : (0 : Int) < ((r :: rest).length : Int) := by simp
    have hl0 : lk (r :: rest) (0 : Int) = some r := rfl
    have ew : IntKind.i64.wrap ((0 : Int) + 1) = ((([r] : List Rg).length : Nat) : Int) := by show IntKind.i64.wrap ((0 : Int) + 1) = 1; decide
    have hrm : roomOk (([] : List (Int × Int)).length + [r].length) 8 = true := room8 (by simp)
    have hg0 : ¬ ((([] : List (Int × Int)).length : Nat) : Int) > 0 := by simp
    simp only [rNorm_s11, hlt, decide_true, decide_false, cond_true, cond_false, hl0, Option.bind_some, hg0, hrm, ew]
    rfl

/- the sorts -/
theorem c_less_is (p q : Rg) : c_less p q = some ((), ((fun p q : Rg => decide (cmpv p.1 q.1 < 0)) p q, ())) := rfl
theorem cmpv_lt (x y : Int) : (cmpv x y < 0) ↔ x < y := by
  unfold cmpv
  split
  · constructor <;> intro _ <;> first | assumption | decide
  · split <;> constructor <;> intro h <;> omega
theorem c_swo : SWO (fun p q : Rg => decide (cmpv p.1 q.1 < 0)) where
  irrefl x := by simp [cmpv_lt]
  trans x y z h1 h2 := by simp [cmpv_lt] at *; omega
  ntrans x y z h1 h2 := by simp [cmpv_lt] at *; omega

theorem perm_of {α : Type} [Inhabited α] {d d' : Array α} (h : PermIn 0 d.size d d') : d'.toList.Perm d.toList := by
  obtain ⟨h1, _, h3⟩ := h
  have e1 : d.extract 0 d.size = d := by simp
  have e2 : d'.extract 0 d.size = d' := by rw [← h1]; simp
  rw [e1, e2] at h3
  exact h3

theorem sortF_spec (l : List Rg) (h : l.length ≤ 100000000) : ∃ s, sortF l = some (s, ()) ∧ s.Perm l ∧ SortedLo s := by
  have hb : Sort.bitsLen l.length ≤ 61 := (bitsLen_le_iff l.length 61).2 (by omega)
  obtain ⟨d', h1, h2, h3⟩ := pdqN_sorts c_less_is c_swo (l.length + 1) 0 l.toArray.size (Sort.bitsLen l.length) l.toArray (by simp) (by omega) (by omega) (by simp; omega) (by omega) (.inl rfl)
  have e0 : IntKind.u64.wrap (l.length : Int) = (l.length : Int) := wrapu64 (by omega) (by omega)
  simp only [List.size_toArray] at h1
  have h1' : Srt.pdqN c_less (l.length + 1) l (0 : Int) (l.length : Int) ((Sort.bitsLen l.length : Nat) : Int) = some (d'.toList, ()) := h1
  refine ⟨d'.toList, ?_, by simpa using perm_of h2, ?_⟩
  · simp only [sortF, sortG, e0, bitsLen_tie l.length (by omega), Option.bind_some, h1']
  · refine List.pairwise_iff_getElem.2 fun i j hi hj hij => ?_
    simp only [Array.length_toList] at hi hj
    have hz : d'.size = l.length := by have := h2.1; simpa using this
    have := h3 i j (by omega) hij (by simp; omega)
    simp only [decide_eq_false_iff_not, cmpv_lt] at this
    simp only [Array.getElem_toList]
    rw [getElem!_pos d' j hj, getElem!_pos d' i hi] at this
    omega

theorem i_less_is (x y : Int) : i_less x y = some ((), ((fun x y : Int => decide (x < y)) x y, ())) := rfl
theorem i_swo : SWO (fun x y : Int => decide (x < y)) where
  irrefl x := by simp
  trans x y z h1 h2 := by simp at *; omega
  ntrans x y z h1 h2 := by simp at *; omega
theorem sortI_spec (l : List Int) (h : l.length ≤ 100000000) : ∃ s, sortI l = some (s, ()) ∧ s.Perm l ∧ s.Pairwise (· ≤ ·) := by
  refine ⟨_, sortG_tie i_less_is i_swo (fun x y h1 h2 => by simp at h1 h2; omega) l (by omega) (l.length + 1) (by omega), List.mergeSort_perm _ _, ?_⟩
  have := List.pairwise_mergeSort (le := fun x y : Int => !decide (y < x)) (fun a b c h1 h2 => by simp at h1 h2 ⊢; omega) (fun a b => by simp; omega) l
  exact this.imp (fun h => by simpa using h)

/- - rset.Norm -/
theorem rNorm_eq' (l : List Rg) (h : l.length ≤ 50000000) : rNorm l = some ((), (norm l, ())) := by
  have h1 := clip_loop l [] [] fuelN (by simp; omega) (by simp; omega) (by have := fuelN_le; omega)
  have hcl := clip_length l
  obtain ⟨s, h2, h3, h4⟩ := sortF_spec (clipL l) (by omega)
  have h5 := merge_all s (by rw [h3.length_eq]; omega) (fun r hr => clip_valid (h3.mem_iff.1 hr))
  simp only [List.nil_append, List.length_nil] at h1
  have h1' : iterN (fun x => rNorm_s3 x.1 x.2.1 x.2.2.1 x.2.2.2.1) fuelN (([] : List (Int × Int)), (l, ((l.length : Int), ((0 : Int), ())))) = some (clipL l, ()) := h1
  simp only [rNorm, h1', Option.bind_some, h2, h5]
  rw [norm_eq h3 h4]

/- - slices.Equal -/
theorem slEqual_loop : ∀ (rest rest' pre pre' : List Rg) (n : Nat), pre.length = pre'.length → rest.length = rest'.length → pre.length + rest.length ≤ 100000000 → rest.length < n →
    iterN (fun x => slEqual_s4 x.1 x.2.1 x.2.2.1 x.2.2.2.1) n (pre ++ rest, (pre' ++ rest', (((pre ++ rest).length : Int), (((pre.length : Nat) : Int), ())))) =
      some (if rest = rest' then .inr () else .inl (false, ())) := by
  intro rest
  induction rest with
  | nil =>
    intro rest' pre pre' n h1 h2 h3 hn
    obtain ⟨n, rfl⟩ := succ_of hn
    have : rest' = [] := List.length_eq_zero_iff.1 (by simpa using h2.symm)
    subst this
    refine iterN_inr ?_
    simp [slEqual_s4]
  | cons r rest ih =>
    intro rest' pre pre' n h1 h2 h3 hn
    cases rest' with
    | nil => simp at h2
    | cons r' rest' =>
      simp only [List.length_cons, Nat.add_right_cancel_iff] at h2 h3 hn
      obtain ⟨n, rfl⟩ := succ_of hn
      have hlt : ((pre.length : Nat) : Int) < ((pre ++ r :: rest).length : Int) := lt_mid
      have ew : IntKind.i64.wrap (((pre.length : Nat) : Int) + 1) = (((pre ++ [r]).length : Nat) : Int) := w_mid (by omega)
      have hlk : lk (pre' ++ r' :: rest') ((pre.length : Nat) : Int) = some r' := by rw [h1]; exact lk_mid
      by_cases hc : r = r'
      · subst hc
        have hs := ih rest' (pre ++ [r]) (pre' ++ [r]) n (by simp [h1]) h2 (by simp; omega) (by omega)
        rw [← app_mid, ← app_mid] at hs
        have e : (r :: rest = r :: rest') ↔ rest = rest' := by simp
        simp only [e]
        refine (iterN_inl ?_).trans hs
        have hd : (decide (r.1 = r.1) && decide (r.2 = r.2)) = true := by simp
        simp only [slEqual_s4, hlt, decide_true, cond_true, lk_mid, hlk, Option.bind_some, ew]
        rfl
      · have e : ¬ (r :: rest = r' :: rest') := fun h => hc (List.cons.inj h).1
        rw [if_neg e]
        refine iterN_inr ?_
        have hd : (decide (r.1 = r'.1) && decide (r.2 = r'.2)) = false := by
          cases hb : (decide (r.1 = r'.1) && decide (r.2 = r'.2)) with
          | false => rfl
          | true =>
            simp only [Bool.and_eq_true, decide_eq_true_eq] at hb
            exact absurd (Prod.ext hb.1 hb.2) hc
        simp only [slEqual_s4, hlt, decide_true, cond_true, lk_mid, hlk, Option.bind_some, hd, Bool.not_false]

theorem slEqual_eq' (a b : List Rg) (h : a.length ≤ 50000000) : slEqual a b = some ((), (decide (a = b), ())) := by
  by_cases hl : a.length = b.length
  · have h1 := slEqual_loop a b [] [] fuelN rfl hl (by simp; omega) (by have := fuelN_le; omega)
    have h1' : iterN (fun x => slEqual_s4 x.1 x.2.1 x.2.2.1 x.2.2.2.1) fuelN (a, (b, ((a.length : Int), ((0 : Int), ())))) = some (if a = b then .inr () else .inl (false, ())) := h1
    have hne : ((a.length : Int) != (b.length : Int)) = false := by simp [hl]
    simp only [slEqual, hne, cond_false, Option.bind_some, h1']
    by_cases hab : a = b <;> simp [hab]
  · have hne : ((a.length : Int) != (b.length : Int)) = true := by simp; omega
    have hab : a ≠ b := fun e => hl (by rw [e])
    simp only [slEqual, hne, cond_true, Option.bind_some]
    simp [hab]

end Go.Vt.Sg
