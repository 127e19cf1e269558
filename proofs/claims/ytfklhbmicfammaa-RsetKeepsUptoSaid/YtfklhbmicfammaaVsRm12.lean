/- The law of orders. -/
import Derived.Test.YtfklhbmicfammaaVsRm11
set_option linter.unusedVariables false
set_option maxRecDepth 100000
namespace Go.Vs.Rs
open Go Go.Vs Go.Vs.Rm Go.Sort Go.Vs.Srt

/- - the list with each range cut at a number -/
def cutAt (c : Int) : List Rg → List Rg
  | [] => []
  | r :: l => (if decide (r.1 ≤ c) && decide (c < r.2) then [(IntKind.i32.wrap (c + 1), r.2), (r.1, c)] else [r]) ++ cutAt c l
theorem cutAt_length (c : Int) : ∀ l : List Rg, (cutAt c l).length ≤ 2 * l.length
  | [] => Nat.le_refl _
  | r :: l => by
    have := cutAt_length c l
    simp only [cutAt, List.length_append, List.length_cons]
    split <;> simp <;> omega
theorem cutAt_has {c : Int} : ∀ {l : List Rg} {x : Int}, (∀ r ∈ l, -2147483648 ≤ r.1 ∧ r.2 ≤ 2147483647) → has (cutAt c l) x = has l x
  | [], _, _ => rfl
  | r :: l, x, h => by
    have ih := cutAt_has (c := c) (l := l) (x := x) fun q hq => h q (by simp [hq])
    have hr := h r (by simp)
    simp only [cutAt, has_app, ih]
    have hh : has (r :: l) x = ((decide (r.1 ≤ x) && decide (x ≤ r.2)) || has l x) := rfl
    rw [hh]
    congr 1
    by_cases hc : r.1 ≤ c ∧ c < r.2
    · have e : (decide (r.1 ≤ c) && decide (c < r.2)) = true := by simp [hc.1, hc.2]
      rw [if_pos e]
      have ew : IntKind.i32.wrap (c + 1) = c + 1 := wrap32 (by omega) (by omega)
      rw [Bool.eq_iff_iff]
      simp only [has, ew, List.any_cons, List.any_nil, Bool.or_false, Bool.or_eq_true, Bool.and_eq_true, decide_eq_true_eq]
      omega
    · have e : ¬ (decide (r.1 ≤ c) && decide (c < r.2)) = true := by
        simp only [Bool.and_eq_true, decide_eq_true_eq]; exact hc
      rw [if_neg e]
      simp [has]

theorem cut_pieces (c : Int) (w : List Rg) (L : Int) : ∀ (rest pre g : List Rg) (n : Nat), L = ((pre ++ rest).length : Int) → pre.length + rest.length ≤ 100000000 → g.length + 2 * rest.length ≤ 300000000 → rest.length < n →
    iterN (fun x => lOrders_s13 x.1.1 x.1.2.1 x.1.2.2.1 x.1.2.2.2.1 x.2.1 x.2.2.1) n ((c, (w, (L, (((pre.length : Nat) : Int), ())))), (pre ++ rest, (g, ()))) = some ((w, ()), (pre ++ rest, (g ++ cutAt c rest, ()))) := by
  intro rest
  induction rest with
  | nil =>
    intro pre g n hL h1 h2 hn
    obtain ⟨n, rfl⟩ := succ_of hn
    refine iterN_inr ?_
    have : ¬ ((pre.length : Nat) : Int) < L := by rw [hL]; simp
    simp [lOrders_s13, this, cutAt]
  | cons r rest ih =>
    intro pre g n hL h1 h2 hn
    simp only [List.length_cons] at h1 h2 hn
    obtain ⟨n, rfl⟩ := succ_of hn
    have hlt : ((pre.length : Nat) : Int) < L := by rw [hL]; exact lt_mid
    have ew : IntKind.i64.wrap (((pre.length : Nat) : Int) + 1) = (((pre ++ [r]).length : Nat) : Int) := w_mid (by omega)
    have one : ∀ x : Rg, lk [x] (0 : Int) = some x := fun x => rfl
    by_cases hc : r.1 ≤ c ∧ c < r.2
    · have e : (decide (r.1 ≤ c) && decide (c < r.2)) = true := by simp [hc.1, hc.2]
      have hs := ih (pre ++ [r]) (g ++ [(IntKind.i32.wrap (c + 1), r.2), (r.1, c)]) n (by rw [hL]; simp) (by simp; omega) (by simp; omega) (by omega)
      rw [← app_mid] at hs
      have e2 : (g ++ [(IntKind.i32.wrap (c + 1), r.2), (r.1, c)]) ++ cutAt c rest = g ++ cutAt c (r :: rest) := by simp only [cutAt, if_pos e]; simp
      rw [e2] at hs
      have hrm : roomOk (g.length + [(IntKind.i32.wrap (c + 1), r.2), (r.1, c)].length) 8 = true := room8 (by simp; omega)
      refine (iterN_inl ?_).trans hs
      simp only [lOrders_s13, hlt, decide_true, cond_true, lk_mid, Option.bind_some, hc.1, hc.2, one, hrm, ew]
    · have e : ¬ (decide (r.1 ≤ c) && decide (c < r.2)) = true := by
        simp only [Bool.and_eq_true, decide_eq_true_eq]; exact hc
      have hs := ih (pre ++ [r]) (g ++ [r]) n (by rw [hL]; simp) (by simp; omega) (by simp; omega) (by omega)
      rw [← app_mid] at hs
      have e2 : (g ++ [r]) ++ cutAt c rest = g ++ cutAt c (r :: rest) := by simp only [cutAt, if_neg e]; simp
      rw [e2] at hs
      have hrm : roomOk (g.length + [r].length) 8 = true := room8 (by simp; omega)
      refine (iterN_inl ?_).trans hs
      by_cases h3 : r.1 ≤ c
      · have h4 : ¬ c < r.2 := fun h4 => hc ⟨h3, h4⟩
        simp only [lOrders_s13, hlt, decide_true, decide_false, cond_true, cond_false, lk_mid, Option.bind_some, h3, h4, one, hrm, ew]
      · simp only [lOrders_s13, hlt, decide_true, decide_false, cond_true, cond_false, lk_mid, Option.bind_some, h3, one, hrm, ew]

theorem wrapU {x : Int} : 0 ≤ IntKind.u64.wrap x := by
  simp only [IntKind.wrap, IntKind.signed, IntKind.bits]
  simp
  omega

theorem lOrders_is (l : List Rg) (turn c : Int) (hl : l.length ≤ 10000000) (hv : ∀ r ∈ l, -2147483648 ≤ r.1 ∧ r.2 ≤ 2147483647) : lOrders l turn c = some ((), (true, ())) := by
  have e1 := rNorm_eq' l (by omega)
  by_cases h0 : l.length = 0
  · have hn : l = [] := List.length_eq_zero_iff.1 h0
    subst hn
    have en : norm [] = [] := norm_nrm trivial
    simp only [lOrders, fixed_is, Option.bind_some, Bool.not_true, cond_false, e1, en]
    rfl
  · have hne : ((l.length : Int) == (0 : Int)) = false := by rw [beq_eq_false_iff_ne]; omega
    have wl : IntKind.u64.wrap (l.length : Int) = (l.length : Int) := wrapu64 (by omega) (by omega)
    have hne2 : ((l.length : Int) != (0 : Int)) = true := by rw [bne_iff_ne]; omega
    obtain ⟨k, hk, hkl⟩ : ∃ k : Nat, Int.tmod (IntKind.u64.wrap turn) (l.length : Int) = (k : Int) ∧ k < l.length := by
      have h1 := wrapU (x := turn)
      rw [Int.tmod_eq_emod_of_nonneg h1]
      have h2 := Int.emod_nonneg (IntKind.u64.wrap turn) (show (l.length : Int) ≠ 0 by omega)
      have h3 := Int.emod_lt_of_pos (IntKind.u64.wrap turn) (show (0 : Int) < (l.length : Int) by omega)
      exact ⟨(IntKind.u64.wrap turn % (l.length : Int)).toNat, by omega, by omega⟩
    have wk : IntKind.i64.wrap ((k : Nat) : Int) = ((k : Nat) : Int) := by rw [wrap64] <;> omega
    have i1 : inB ((k : Nat) : Int) (l.length : Int) l.length = true := by
      simp only [inB, Bool.and_eq_true, decide_eq_true_eq]; omega
    have i2 : inB (0 : Int) ((k : Nat) : Int) l.length = true := by
      simp only [inB, Bool.and_eq_true, decide_eq_true_eq]; omega
    have c1 : cut l ((k : Nat) : Int) (l.length : Int) = l.drop k := by
      have e : ((l.length : Int) - ((k : Nat) : Int)).toNat = l.length - k := by omega
      simp only [cut, Int.toNat_natCast, e]
      rw [List.take_of_length_le (by simp)]
    have c2 : cut l (0 : Int) ((k : Nat) : Int) = l.take k := by
      have e : (((k : Nat) : Int) - (0 : Int)).toNat = k := by omega
      simp only [cut, e, Int.toNat_zero, List.drop_zero]
    obtain ⟨x, hx⟩ : ∃ x, l[k]? = some x := ⟨l[k], by simp [hkl]⟩
    have lk1 : lk l ((k : Nat) : Int) = some x := by unfold lk; rw [if_pos (by omega)]; simpa using hx
    have hxm : x ∈ l := List.mem_of_getElem? hx
    generalize hm : (([] : List Rg) ++ l.drop k) ++ l.take k ++ [x] = m
    have hml : m.length = l.length + 1 := by rw [← hm]; simp; omega
    have hmm : ∀ r, r ∈ m ↔ r ∈ l := by
      intro r
      rw [← hm]
      simp only [List.nil_append, List.mem_append, List.mem_singleton]
      constructor
      · rintro ((h | h) | rfl)
        · exact List.mem_of_mem_drop h
        · exact List.mem_of_mem_take h
        · exact hxm
      · intro h
        left
        rw [← List.take_append_drop k l] at h
        rcases List.mem_append.1 h with h | h
        · exact .inr h
        · exact .inl h
    have r1 : roomOk (([] : List (Int × Int)).length + (l.drop k).length) 8 = true := room8 (by simp; omega)
    have r2 : roomOk ((([] : List (Int × Int)) ++ l.drop k).length + (l.take k).length) 8 = true := room8 (by simp; omega)
    have r3 : roomOk (((([] : List (Int × Int)) ++ l.drop k) ++ l.take k).length + [x].length) 8 = true := room8 (by simp; omega)
    have h2 := cut_pieces c (norm l) (m.length : Int) m [] [] fuelN (by simp) (by simp; omega) (by simp; omega) (by have := fuelN_le; omega)
    have h2' : iterN (fun x => lOrders_s13 x.1.1 x.1.2.1 x.1.2.2.1 x.1.2.2.2.1 x.2.1 x.2.2.1) fuelN ((c, (norm l, ((m.length : Int), ((0 : Int), ())))), (m, (([] : List (Int × Int)), ()))) = some ((norm l, ()), (m, (cutAt c m, ()))) := h2
    have hcl := cutAt_length c m
    have ln := nrm_len (norm_spec l).1
    have e2 : norm m = norm l := norm_congr fun y => by
      unfold Mem
      simp only [hmm]
    have e3 : norm (cutAt c m) = norm l := norm_congr fun y => by
      constructor
      · intro h
        have h3 := (has_mem h.1 h.2.1).2 h
        rw [cutAt_has (fun r hr => hv r ((hmm r).1 hr))] at h3
        have h4 := (has_mem h.1 h.2.1).1 h3
        exact ⟨h.1, h.2.1, by obtain ⟨r, hr, h5⟩ := h4.2.2; exact ⟨r, (hmm r).1 hr, h5⟩⟩
      · intro h
        refine (has_mem h.1 h.2.1).1 ?_
        rw [cutAt_has (fun r hr => hv r ((hmm r).1 hr))]
        refine (has_mem h.1 h.2.1).2 ⟨h.1, h.2.1, ?_⟩
        obtain ⟨r, hr, h5⟩ := h.2.2
        exact ⟨r, (hmm r).2 hr, h5⟩
    have s1 := refSame_is (norm l) (norm l) (by omega)
    simp only [decide_true] at s1
    simp only [lOrders, fixed_is, Option.bind_some, Bool.not_true, cond_false, cond_true, e1, hne, wl, hne2, hk, wk, i1, i2, c1, c2, r1, r2, lk1, r3, hm, h2', rNorm_eq' m (by omega), rNorm_eq' (cutAt c m) (by omega), e2, e3, s1]

end Go.Vs.Rs
