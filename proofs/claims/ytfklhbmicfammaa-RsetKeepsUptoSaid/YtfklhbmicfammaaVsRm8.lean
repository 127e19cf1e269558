/- The reference's normal list, union and complement. -/
import Derived.Test.YtfklhbmicfammaaVsRm7
set_option linter.unusedVariables false
set_option maxRecDepth 100000
namespace Go.Vs.Rs
open Go Go.Vs Go.Vs.Rm Go.Sort Go.Vs.Srt

/- - the ranges that join the first, and the rest -/
def joinR : Rg → List Rg → Rg × List Rg
  | z, [] => (z, [])
  | z, r :: l => if r.1 ≤ z.2 + 1 then joinR (z.1, if r.2 > z.2 then r.2 else z.2) l else (z, r :: l)
theorem joinR_length : ∀ (l : List Rg) (z : Rg), (joinR z l).2.length ≤ l.length
  | [], _ => Nat.le_refl _
  | r :: l, z => by
    simp only [joinR]
    split
    · have := joinR_length l (z.1, if r.2 > z.2 then r.2 else z.2); simp only [List.length_cons]; omega
    · exact Nat.le_refl _
theorem joinR_suffix : ∀ (l : List Rg) (z : Rg), ∃ p, l = p ++ (joinR z l).2
  | [], _ => ⟨[], rfl⟩
  | r :: l, z => by
    simp only [joinR]
    split
    · obtain ⟨p, hp⟩ := joinR_suffix l (z.1, if r.2 > z.2 then r.2 else z.2)
      refine ⟨r :: p, ?_⟩
      rw [List.cons_append, ← hp]
    · exact ⟨[], rfl⟩
theorem joinR_valid : ∀ (l : List Rg) (z : Rg), Valid (z :: l) → Valid ((joinR z l).1 :: (joinR z l).2)
  | [], z, h => h
  | r :: l, z, h => by
    have hz := h z (by simp)
    have hr := h r (by simp)
    simp only [joinR]
    split
    · refine joinR_valid l _ ?_
      intro q hq
      rcases List.mem_cons.1 hq with rfl | hq
      · simp only
        refine ⟨hz.1, ?_, ?_⟩ <;> split <;> omega
      · exact h q (by simp [hq])
    · exact h
theorem mergeC_join : ∀ (l : List Rg) (z : Rg), mergeC z l = (joinR z l).1 :: mergeL (joinR z l).2
  | [], z => rfl
  | r :: l, z => by
    simp only [mergeC, joinR]
    split
    · exact mergeC_join l _
    · rfl

theorem join_loop (g4 : List Rg) : ∀ (rest pre : List Rg) (z : Rg) (n : Nat), pre.length + rest.length ≤ 100000000 → Valid (z :: rest) → rest.length < n →
    ∃ p, pre ++ rest = p ++ (joinR z rest).2 ∧ iterN (fun x => refNorm_s10 x.1.1 x.1.2.1 x.1.2.2.1 x.2.1 x.2.2.1) n ((pre ++ rest, (((pre.length : Nat) : Int), ((0 : Int), ()))), (g4, ([z], ()))) =
      some ((pre ++ rest, (((p.length : Nat) : Int), ((0 : Int), ()))), (g4, ([(joinR z rest).1], ()))) := by
  intro rest
  induction rest with
  | nil =>
    intro pre z n h1 hv hn
    obtain ⟨n, rfl⟩ := succ_of hn
    refine ⟨pre, by simp [joinR], iterN_inr ?_⟩
    simp [refNorm_s10, joinR]
  | cons r rest ih =>
    intro pre z n h1 hv hn
    simp only [List.length_cons] at h1 hn
    obtain ⟨n, rfl⟩ := succ_of hn
    have hz := hv z (by simp)
    have hr := hv r (by simp)
    have hlt : ((pre.length : Nat) : Int) < ((pre ++ r :: rest).length : Int) := lt_mid
    have ew : IntKind.i64.wrap (((pre.length : Nat) : Int) + 1) = (((pre ++ [r]).length : Nat) : Int) := w_mid (by omega)
    have one : ∀ x : Rg, lk [x] (0 : Int) = some x := fun x => rfl
    have z0 : (0 : Int).toNat = 0 := rfl
    have s0 : ∀ x y : Rg, [x].set 0 y = [y] := fun x y => rfl
    have w1 : IntKind.i32.wrap (z.2 + 1) = z.2 + 1 := wrap32 (by omega) (by omega)
    by_cases hc : r.1 ≤ z.2 + 1
    · have hj : joinR z (r :: rest) = joinR (z.1, if r.2 > z.2 then r.2 else z.2) rest := by simp only [joinR, if_pos hc]
      rw [hj]
      have hv2 : Valid ((z.1, if r.2 > z.2 then r.2 else z.2) :: rest) := by
        intro q hq
        rcases List.mem_cons.1 hq with rfl | hq
        · simp only
          refine ⟨hz.1, ?_, ?_⟩ <;> split <;> omega
        · exact hv q (by simp [hq])
      obtain ⟨p, hp, hs⟩ := ih (pre ++ [r]) (z.1, if r.2 > z.2 then r.2 else z.2) n (by simp; omega) hv2 (by omega)
      rw [← app_mid] at hs hp
      refine ⟨p, hp, (iterN_inl ?_).trans hs⟩
      by_cases h4 : r.2 > z.2
      · simp only [refNorm_s10, hlt, decide_true, cond_true, lk_mid, one, Option.bind_some, w1, hc, h4, z0, s0, ew, if_true]
      · simp only [refNorm_s10, hlt, decide_true, decide_false, cond_true, cond_false, lk_mid, one, Option.bind_some, w1, hc, h4, ew, if_false]
    · have hj : joinR z (r :: rest) = (z, r :: rest) := by simp only [joinR, if_neg hc]
      rw [hj]
      refine ⟨pre, rfl, iterN_inr ?_⟩
      simp only [refNorm_s10, hlt, decide_true, decide_false, cond_true, cond_false, lk_mid, one, Option.bind_some, w1, hc]

theorem refMerge_loop : ∀ (k : Nat) (rest pre g : List Rg) (n : Nat), rest.length ≤ k → pre.length + rest.length ≤ 100000000 → g.length + rest.length ≤ 100000000 → Valid rest → k < n →
    iterN (fun x => refNorm_s4 x.1.1 x.1.2.1 x.2.1) n ((pre ++ rest, (((pre.length : Nat) : Int), ())), (g, ())) = some ((), (g ++ mergeL rest, ())) := by
  intro k
  induction k with
  | zero =>
    intro rest pre g n hk h1 h2 hv hn
    obtain ⟨n, rfl⟩ := succ_of hn
    have e1 : rest = [] := List.length_eq_zero_iff.1 (by omega)
    subst e1
    refine iterN_inr ?_
    simp [refNorm_s4, mergeL]
  | succ k ih =>
    intro rest pre g n hk h1 h2 hv hn
    obtain ⟨n, rfl⟩ := succ_of (Nat.lt_of_le_of_lt (Nat.zero_le _) hn)
    cases rest with
    | nil =>
      refine iterN_inr ?_
      simp [refNorm_s4, mergeL]
    | cons r rest =>
      simp only [List.length_cons] at hk h1 h2
      have hlt : ((pre.length : Nat) : Int) < ((pre ++ r :: rest).length : Int) := lt_mid
      have ew : IntKind.i64.wrap (((pre.length : Nat) : Int) + 1) = (((pre ++ [r]).length : Nat) : Int) := w_mid (by omega)
      obtain ⟨p, hp, hj⟩ := join_loop g rest (pre ++ [r]) r fuelN (by simp; omega) hv (by have := fuelN_le; omega)
      rw [← app_mid] at hj hp
      have hjl := joinR_length rest r
      have hjv := joinR_valid rest r hv
      have hpl : p.length + (joinR r rest).2.length = pre.length + rest.length + 1 := by
        have := congrArg List.length hp
        simp only [List.length_append, List.length_cons] at this
        omega
      have hs := ih (joinR r rest).2 p (g ++ [(joinR r rest).1]) n (by omega) (by omega) (by simp; omega) (fun q hq => hjv q (by simp [hq])) (by omega)
      have one : ∀ x : Rg, lk [x] (0 : Int) = some x := fun x => rfl
      have hrm : roomOk (g.length + [(joinR r rest).1].length) 8 = true := room8 (by simp; omega)
      have e : g ++ mergeL (r :: rest) = (g ++ [(joinR r rest).1]) ++ mergeL (joinR r rest).2 := by
        rw [show mergeL (r :: rest) = mergeC r rest from rfl, mergeC_join]; simp
      rw [e]
      rw [← hp] at hs
      refine (iterN_inl ?_).trans hs
      simp only [refNorm_s4, hlt, decide_true, cond_true, lk_mid, Option.bind_some, ew, hj, one, hrm]

theorem refNorm_is (l : List Rg) (h : l.length ≤ 50000000) : refNorm l = some ((), (norm l, ())) := by
  have h1 := refClipped_is l h
  have hcl := clip_length l
  obtain ⟨s, h2, h3, h4⟩ := refSorted_is (clipL l) (by omega)
  have hv : Valid s := fun r hr => clip_valid (h3.mem_iff.1 hr)
  have hl := h3.length_eq
  have h5 := refMerge_loop s.length s [] [] fuelN (Nat.le_refl _) (by simp; omega) (by simp; omega) hv (by have := fuelN_le; omega)
  have h5' : iterN (fun x => refNorm_s4 x.1.1 x.1.2.1 x.2.1) fuelN ((s, ((0 : Int), ())), (([] : List (Int × Int)), ())) = some ((), (mergeL s, ())) := h5
  simp only [refNorm, h1, Option.bind_some, h2, h5', norm_eq h3 h4]

/- union -/
theorem refU_loop1 (b : List Rg) : ∀ (rest pre g : List Rg) (n : Nat), pre.length + rest.length ≤ 100000000 → g.length + rest.length ≤ 100000000 → rest.length < n →
    iterN (fun x => refUnion_s3 x.1.1 x.1.2.1 x.1.2.2.1 x.2.1) n ((pre ++ rest, (b, (((pre.length : Nat) : Int), ()))), (g, ())) = some ((b, ()), (g ++ rest, ())) := by
  intro rest
  induction rest with
  | nil =>
    intro pre g n h1 h2 hn
    obtain ⟨n, rfl⟩ := succ_of hn
    refine iterN_inr ?_
    simp [refUnion_s3]
  | cons r rest ih =>
    intro pre g n h1 h2 hn
    simp only [List.length_cons] at h1 h2 hn
    obtain ⟨n, rfl⟩ := succ_of hn
    have hlt : ((pre.length : Nat) : Int) < ((pre ++ r :: rest).length : Int) := lt_mid
    have ew : IntKind.i64.wrap (((pre.length : Nat) : Int) + 1) = (((pre ++ [r]).length : Nat) : Int) := w_mid (by omega)
    have hrm : roomOk (g.length + [r].length) 8 = true := room8 (by simp; omega)
    have hs := ih (pre ++ [r]) (g ++ [r]) n (by simp; omega) (by simp; omega) (by omega)
    rw [← app_mid, ← app_mid] at hs
    refine (iterN_inl ?_).trans hs
    simp only [refUnion_s3, hlt, decide_true, cond_true, lk_mid, Option.bind_some, hrm, ew]
theorem refU_loop2 : ∀ (rest pre g : List Rg) (n : Nat), pre.length + rest.length ≤ 100000000 → g.length + rest.length ≤ 100000000 → rest.length < n →
    iterN (fun x => refUnion_s13 x.1.1 x.1.2.1 x.2.1) n ((pre ++ rest, (((pre.length : Nat) : Int), ())), (g, ())) = some ((), (g ++ rest, ())) := by
  intro rest
  induction rest with
  | nil =>
    intro pre g n h1 h2 hn
    obtain ⟨n, rfl⟩ := succ_of hn
    refine iterN_inr ?_
    simp [refUnion_s13]
  | cons r rest ih =>
    intro pre g n h1 h2 hn
    simp only [List.length_cons] at h1 h2 hn
    obtain ⟨n, rfl⟩ := succ_of hn
    have hlt : ((pre.length : Nat) : Int) < ((pre ++ r :: rest).length : Int) := lt_mid
    have ew : IntKind.i64.wrap (((pre.length : Nat) : Int) + 1) = (((pre ++ [r]).length : Nat) : Int) := w_mid (by omega)
    have hrm : roomOk (g.length + [r].length) 8 = true := room8 (by simp; omega)
    have hs := ih (pre ++ [r]) (g ++ [r]) n (by simp; omega) (by simp; omega) (by omega)
    rw [← app_mid, ← app_mid] at hs
    refine (iterN_inl ?_).trans hs
    simp only [refUnion_s13, hlt, decide_true, cond_true, lk_mid, Option.bind_some, hrm, ew]
theorem refUnion_raw (a b : List Rg) (ha : a.length ≤ 10000000) (hb : b.length ≤ 10000000) : refUnion a b = some ((), (norm (a ++ b), ())) := by
  have h1 := refU_loop1 b a [] [] fuelN (by simp; omega) (by simp; omega) (by have := fuelN_le; omega)
  have h1' : iterN (fun x => refUnion_s3 x.1.1 x.1.2.1 x.1.2.2.1 x.2.1) fuelN ((a, (b, ((0 : Int), ()))), (([] : List (Int × Int)), ())) = some ((b, ()), (a, ())) := h1
  have h2 := refU_loop2 b [] a fuelN (by simp; omega) (by omega) (by have := fuelN_le; omega)
  have h2' : iterN (fun x => refUnion_s13 x.1.1 x.1.2.1 x.2.1) fuelN ((b, ((0 : Int), ())), (a, ())) = some ((), (a ++ b, ())) := h2
  simp only [refUnion, h1', Option.bind_some, h2', refNorm_is (a ++ b) (by simp; omega)]
theorem has_app (a b : List Rg) (x : Int) : has (a ++ b) x = (has a x || has b x) := by simp [has]
theorem refUnion_is (a b : List Rg) (ha : a.length ≤ 10000000) (hb : b.length ≤ 10000000) : refUnion a b = some ((), (opS uB a b, ())) := by
  rw [refUnion_raw a b ha hb, opS_eq (o := norm (a ++ b)) ⟨(norm_spec _).1, fun x => ?_⟩]
  rw [(norm_spec _).2]
  constructor
  · intro h
    refine ⟨h.1, h.2.1, ?_⟩
    have := (has_mem h.1 h.2.1).2 h
    rw [has_app] at this
    exact this
  · rintro ⟨h0, h1, h2⟩
    refine (has_mem h0 h1).1 ?_
    rw [has_app]; exact h2

/- complement -/
/- - the gaps from a number on, and where the last ends -/
def gaps : Int → List Rg → List Rg
  | _, [] => []
  | z, r :: l => (if r.1 > z then [(z, r.1 - 1)] else []) ++ gaps (r.2 + 1) l
def endG : Int → List Rg → Int
  | z, [] => z
  | _, r :: l => endG (r.2 + 1) l
theorem gaps_length : ∀ (l : List Rg) (z : Int), (gaps z l).length ≤ l.length
  | [], _ => Nat.le_refl _
  | r :: l, z => by
    simp only [gaps, List.length_append, List.length_cons]
    have := gaps_length l (r.2 + 1)
    split <;> simp <;> omega

theorem not_loop : ∀ (rest pre g : List Rg) (z : Int) (n : Nat), pre.length + rest.length ≤ 100000000 → g.length + rest.length ≤ 100000000 → (∀ r ∈ rest, 0 ≤ r.1 ∧ r.1 ≤ r.2 ∧ r.2 ≤ 1114111) → rest.length < n →
    iterN (fun x => refNot_s4 x.1.1 x.1.2.1 x.1.2.2.1 x.2.1) n ((pre ++ rest, (z, (((pre.length : Nat) : Int), ()))), (g, ())) = some ((endG z rest, ()), (g ++ gaps z rest, ())) := by
  intro rest
  induction rest with
  | nil =>
    intro pre g z n h1 h2 hv hn
    obtain ⟨n, rfl⟩ := succ_of hn
    refine iterN_inr ?_
    simp [refNot_s4, gaps, endG]
  | cons r rest ih =>
    intro pre g z n h1 h2 hv hn
    simp only [List.length_cons] at h1 h2 hn
    obtain ⟨n, rfl⟩ := succ_of hn
    have hr := hv r (by simp)
    have hlt : ((pre.length : Nat) : Int) < ((pre ++ r :: rest).length : Int) := lt_mid
    have ew : IntKind.i64.wrap (((pre.length : Nat) : Int) + 1) = (((pre ++ [r]).length : Nat) : Int) := w_mid (by omega)
    have w1 : IntKind.i32.wrap (r.1 - 1) = r.1 - 1 := wrap32 (by omega) (by omega)
    have w2 : IntKind.i32.wrap (r.2 + 1) = r.2 + 1 := wrap32 (by omega) (by omega)
    by_cases hc : r.1 > z
    · have hrm : roomOk (g.length + [(z, r.1 - 1)].length) 8 = true := room8 (by simp; omega)
      have hs := ih (pre ++ [r]) (g ++ [(z, r.1 - 1)]) (r.2 + 1) n (by simp; omega) (by simp; omega) (fun q hq => hv q (by simp [hq])) (by omega)
      rw [← app_mid] at hs
      have e : (g ++ [(z, r.1 - 1)]) ++ gaps (r.2 + 1) rest = g ++ gaps z (r :: rest) := by simp [gaps, hc]
      rw [e] at hs
      refine (iterN_inl ?_).trans hs
      simp only [refNot_s4, hlt, decide_true, cond_true, lk_mid, Option.bind_some, hc, w1, w2, hrm, ew]
    · have hs := ih (pre ++ [r]) g (r.2 + 1) n (by simp; omega) (by omega) (fun q hq => hv q (by simp [hq])) (by omega)
      rw [← app_mid] at hs
      have e : g ++ gaps (r.2 + 1) rest = g ++ gaps z (r :: rest) := by simp [gaps, hc]
      rw [e] at hs
      refine (iterN_inl ?_).trans hs
      simp only [refNot_s4, hlt, decide_true, decide_false, cond_true, cond_false, lk_mid, Option.bind_some, hc, w2, ew]

/- - the complement from a number on -/
def compl (z : Int) (l : List Rg) : List Rg := gaps z l ++ (if endG z l ≤ 1114111 then [(endG z l, 1114111)] else [])
theorem compl_spec : ∀ (l : List Rg) (z b : Int), NrmF b l → z ≤ b → b ≤ z + 1 → NrmF z (compl z l) ∧ ∀ x, (∃ r ∈ compl z l, Rm.inR r x) ↔ (z ≤ x ∧ x ≤ 1114111 ∧ ¬ ∃ r ∈ l, Rm.inR r x)
  | [], z, b, _, h1, h2 => by
    by_cases hz : z ≤ 1114111
    · have e : compl z [] = [(z, 1114111)] := by
        show [] ++ (if z ≤ 1114111 then [(z, 1114111)] else []) = _
        rw [if_pos hz]; rfl
      rw [e]
      refine ⟨⟨Int.le_refl _, hz, Int.le_refl _, trivial⟩, fun x => ?_⟩
      simp [Rm.inR]
    · have e : compl z [] = [] := by
        show [] ++ (if z ≤ 1114111 then [(z, 1114111)] else []) = _
        rw [if_neg hz]; rfl
      rw [e]
      refine ⟨trivial, fun x => ?_⟩
      simp; omega
  | r :: l, z, b, h, h1, h2 => by
    obtain ⟨h3, h4, h5, h6⟩ := h
    obtain ⟨i1, i2⟩ := compl_spec l (r.2 + 1) (r.2 + 2) h6 (by omega) (by omega)
    have ec : compl z (r :: l) = (if r.1 > z then [(z, r.1 - 1)] else []) ++ compl (r.2 + 1) l := by
      simp only [compl, gaps, endG, List.append_assoc]
      rfl
    have hge : ∀ q ∈ l, r.2 + 2 ≤ q.1 := fun q hq => (NrmF.ge h6 q hq).1
    rw [ec]
    constructor
    · split
      · rename_i hz
        refine ⟨Int.le_refl _, by show z ≤ r.1 - 1; omega, by show r.1 - 1 ≤ 1114111; omega, ?_⟩
        exact i1.mono (by show r.1 - 1 + 2 ≤ r.2 + 1; omega)
      · exact i1.mono (by omega)
    · intro x
      simp only [List.mem_append, or_and_right, exists_or]
      rw [i2]
      simp only [List.mem_cons, exists_eq_or_imp]
      have hl : (∃ q, q ∈ l ∧ Rm.inR q x) → r.2 + 2 ≤ x := by
        rintro ⟨q, hq, h7, h8⟩
        have := hge q hq
        omega
      by_cases hz : r.1 > z
      · rw [if_pos hz]
        simp only [List.mem_singleton, exists_eq_left, Rm.inR]
        constructor
        · rintro (⟨h7, h8⟩ | ⟨h7, h8, h9⟩)
          · refine ⟨h7, by omega, ?_⟩
            rintro (h10 | h10)
            · omega
            · have := hl h10; omega
          · refine ⟨by omega, h8, ?_⟩
            rintro (h10 | h10)
            · omega
            · exact h9 h10
        · rintro ⟨h7, h8, h9⟩
          by_cases h10 : x < r.1
          · exact .inl ⟨h7, by omega⟩
          · right
            refine ⟨?_, h8, fun h11 => h9 (.inr h11)⟩
            rcases Int.lt_or_le r.2 x with h12 | h12
            · omega
            · exact absurd (.inl ⟨by omega, h12⟩) h9
      · rw [if_neg hz]
        simp only [List.not_mem_nil, false_and, exists_false, false_or]
        unfold Rm.inR
        constructor
        · rintro ⟨h7, h8, h9⟩
          refine ⟨by omega, h8, ?_⟩
          rintro (h10 | h10)
          · omega
          · exact h9 h10
        · rintro ⟨h7, h8, h9⟩
          refine ⟨?_, h8, fun h11 => h9 (.inr h11)⟩
          rcases Int.lt_or_le r.2 x with h12 | h12
          · omega
          · exact absurd (.inl ⟨by omega, h12⟩) h9

theorem compl_op (a : List Rg) : IsOp nB a [] (compl 0 (norm a)) := by
  obtain ⟨h1, h2⟩ := compl_spec (norm a) 0 0 (norm_spec a).1 (Int.le_refl _) (by decide)
  refine ⟨h1, fun x => ?_⟩
  rw [mem_iff h1, h2]
  constructor
  · rintro ⟨h3, h4, h5⟩
    refine ⟨h3, h4, ?_⟩
    rw [← has_iff, has_norm h3 h4] at h5
    simp only [nB]
    cases hh : has a x with
    | true => exact absurd hh h5
    | false => rfl
  · rintro ⟨h3, h4, h5⟩
    refine ⟨h3, h4, ?_⟩
    rw [← has_iff, has_norm h3 h4]
    simp only [nB] at h5
    cases hh : has a x with
    | true => rw [hh] at h5; cases h5
    | false => exact fun h => by cases h

theorem refNot_is (a : List Rg) (ha : a.length ≤ 10000000) : refNot a = some ((), (opS nB a [], ())) := by
  rw [opS_eq (compl_op a)]
  have ln := nrm_len (norm_spec a).1
  have hv := NrmF.ge (norm_spec a).1
  have h1 := not_loop (norm a) [] [] 0 fuelN (by simp; omega) (by simp; omega) hv (by have := fuelN_le; omega)
  have h1' : iterN (fun x => refNot_s4 x.1.1 x.1.2.1 x.1.2.2.1 x.2.1) fuelN ((norm a, ((0 : Int), ((0 : Int), ()))), (([] : List (Int × Int)), ())) = some ((endG 0 (norm a), ()), (gaps 0 (norm a), ())) := h1
  have hg := gaps_length (norm a) 0
  have hrm : ∀ x : Rg, roomOk ((gaps 0 (norm a)).length + [x].length) 8 = true := fun x => room8 (by simp; omega)
  unfold compl
  by_cases hc : endG 0 (norm a) ≤ 1114111
  · simp only [refNot, refNorm_is a (by omega), Option.bind_some, h1', hc, decide_true, cond_true, hrm, if_true]
  · simp only [refNot, refNorm_is a (by omega), Option.bind_some, h1', hc, decide_false, cond_false, if_false, List.append_nil]

theorem op_len {f : Bool → Bool → Bool} {a b o : List Rg} (h : IsOp f a b o) : o.length ≤ 1114113 := nrm_len h.1
theorem op_has {f : Bool → Bool → Bool} {a b o : List Rg} (h : IsOp f a b o) {x : Int} (h0 : 0 ≤ x) (h1 : x ≤ 1114111) : has o x = f (has a x) (has b x) := by
  rw [Bool.eq_iff_iff, has_mem h0 h1, h.2]
  exact ⟨fun h => h.2.2, fun h => ⟨h0, h1, h⟩⟩
theorem op_of {f : Bool → Bool → Bool} {a b o : List Rg} (hn : Nrm o) (h : ∀ x, 0 ≤ x → x ≤ 1114111 → has o x = f (has a x) (has b x)) : opS f a b = o := by
  refine opS_eq ⟨hn, fun x => ?_⟩
  constructor
  · intro hm
    refine ⟨hm.1, hm.2.1, ?_⟩
    rw [← h x hm.1 hm.2.1]
    exact (has_mem hm.1 hm.2.1).2 hm
  · rintro ⟨h0, h1, h2⟩
    rw [← h x h0 h1] at h2
    exact (has_mem h0 h1).1 h2

theorem refMeet_is (a b : List Rg) (ha : a.length ≤ 10000000) (hb : b.length ≤ 10000000) : refMeet a b = some ((), (opS mB a b, ())) := by
  obtain ⟨_, n1⟩ := rNot_is a ha
  obtain ⟨_, n2⟩ := rNot_is b hb
  have l1 := op_len n1
  have l2 := op_len n2
  obtain ⟨_, n3⟩ := rUnion_is (opS nB a []) (opS nB b []) (by omega) (by omega)
  have l3 := op_len n3
  obtain ⟨_, n4⟩ := rNot_is (opS uB (opS nB a []) (opS nB b [])) (by omega)
  have e : opS mB a b = opS nB (opS uB (opS nB a []) (opS nB b [])) [] := op_of n4.1 fun x h0 h1 => by
    rw [op_has n4 h0 h1, op_has n3 h0 h1, op_has n1 h0 h1, op_has n2 h0 h1]
    simp [nB, uB, mB]
  simp only [refMeet, refNot_is a ha, refNot_is b hb, Option.bind_some, refUnion_is _ _ (show (opS nB a []).length ≤ 10000000 by omega) (show (opS nB b []).length ≤ 10000000 by omega), refNot_is _ (show (opS uB (opS nB a []) (opS nB b [])).length ≤ 10000000 by omega), e]
theorem refMinus_is (a b : List Rg) (ha : a.length ≤ 10000000) (hb : b.length ≤ 10000000) : refMinus a b = some ((), (opS dB a b, ())) := by
  obtain ⟨_, n2⟩ := rNot_is b hb
  have l2 := op_len n2
  obtain ⟨_, n3⟩ := rMeet_is a (opS nB b []) ha (by omega)
  have e : opS dB a b = opS mB a (opS nB b []) := op_of n3.1 fun x h0 h1 => by
    rw [op_has n3 h0 h1, op_has n2 h0 h1]
    simp [nB, mB, dB]
  simp only [refMinus, refNot_is b hb, Option.bind_some, refMeet_is a _ ha (show (opS nB b []).length ≤ 10000000 by omega), e]

end Go.Vs.Rs
