/- The sweep, plainly told. -/
import Derived.Test.YthjjbjnfckjohaaGreatVtGm2
import Derived.Test.YthjjbjnfckjohaaGreatVtGm3
set_option linter.unusedVariables false
set_option maxRecDepth 100000
namespace Go.Vt.Sg
open Go Go.Vt Go.Vt.Rm Go.Sort Go.Vt.Srt

theorem roomK {n k : Nat} (hk : k ≤ 64) (h : n ≤ 1000000000) : roomOk n k = true := by
  unfold roomOk
  simp only [decide_eq_true_eq]
  have : n * k ≤ 1000000000 * 64 := Nat.mul_le_mul h hk
  omega
theorem cut_tail {α : Type} {r : α} {t : List α} : cut (r :: t) (1 : Int) ((r :: t).length : Int) = t := by
  simp [cut]
theorem inB_tail {α : Type} {r : α} {t : List α} : inB (1 : Int) ((r :: t).length : Int) (r :: t).length = true := by
  simp [inB]; omega

theorem grow_is (n : Nat) (h : n ≤ 100000000) : grow ((n : Nat) : Int) = some ((), ([], ())) := by
  have h0 : ¬ ((n : Nat) : Int) < 0 := by omega
  have e1 : IntKind.i64.wrap ((0 : Int) - 0) = 0 := by decide
  have e2 : IntKind.i64.wrap (((n : Nat) : Int) - 0) = ((n : Nat) : Int) := by rw [wrap64] <;> omega
  by_cases hn : n = 0
  · subst hn; rfl
  · have h1 : ((n : Nat) : Int) > 0 := by omega
    have h2 : inB (0 : Int) (0 : Int) 0 = true := rfl
    have h3 : inB (0 : Int) (0 : Int) (List.replicate (Int.toNat ((n : Nat) : Int)) ((0 : Int), (0 : Int))).length = true := by simp [inB]
    have h4 : decide (0 ≤ ((n : Nat) : Int)) = true := by simp
    have h5 : roomOk (Int.toNat ((n : Nat) : Int)) 8 = true := roomK (by decide) (by simp; omega)
    simp only [grow, h0, decide_false, cond_false, Option.bind_some, e1, e2, h1, decide_true, cond_true, h2, h3, h4, h5, Bool.and_true]
    rfl

theorem concat_is (a b : List Rg) (ha : a.length ≤ 10000000) (hb : b.length ≤ 10000000) : concat [a, b] = some ((), (a ++ b, ())) := by
  obtain ⟨n, hn⟩ : ∃ n, fuelN = n + 3 := ⟨fuelN - 3, by have := fuelN_le; omega⟩
  have w1 : IntKind.i64.wrap ((0 : Int) + (a.length : Int)) = (a.length : Int) := by rw [wrap64] <;> omega
  have w2 : IntKind.i64.wrap ((a.length : Int) + (b.length : Int)) = ((a.length + b.length : Nat) : Int) := by rw [wrap64] <;> omega
  have n1 : ¬ (a.length : Int) < 0 := by omega
  have n2 : ¬ ((a.length + b.length : Nat) : Int) < 0 := by omega
  have i1 : IntKind.i64.wrap ((0 : Int) + 1) = 1 := by decide
  have i2 : IntKind.i64.wrap ((1 : Int) + 1) = 2 := by decide
  have l0 : lk [a, b] (0 : Int) = some a := rfl
  have l1 : lk [a, b] (1 : Int) = some b := rfl
  have hl : (([a, b] : List (List Rg)).length : Int) = 2 := rfl
  have d0 : decide ((0 : Int) < 2) = true := rfl
  have d1 : decide ((1 : Int) < 2) = true := rfl
  have d2 : decide ((2 : Int) < 2) = false := rfl
  have r1 : roomOk (([] : List Rg).length + a.length) 8 = true := roomK (by decide) (by simp; omega)
  have r2 : roomOk (([] ++ a : List Rg).length + b.length) 8 = true := roomK (by decide) (by simp; omega)
  have A : iterN (fun x => concat_s3 x.1 x.2.1 x.2.2.1 x.2.2.2.1 x.2.2.2.2.1) fuelN ([a, b], ((0 : Int), ([a, b], ((([a, b] : List (List Rg)).length : Int), ((0 : Int), ()))))) = some ([a, b], (((a.length + b.length : Nat) : Int), ())) := by
    rw [hn, hl]
    refine (iterN_inl (y := ([a, b], ((a.length : Int), ([a, b], ((2 : Int), ((1 : Int), ())))))) ?_).trans ?_
    · simp only [concat_s3, d0, cond_true, l0, Option.bind_some, w1, n1, decide_false, cond_false, i1]
    · refine (iterN_inl (y := ([a, b], (((a.length + b.length : Nat) : Int), ([a, b], ((2 : Int), ((2 : Int), ())))))) ?_).trans ?_
      · simp only [concat_s3, d1, cond_true, l1, Option.bind_some, w2, n2, decide_false, cond_false, i2]
      · refine iterN_inr ?_
        simp only [concat_s3, d2, cond_false]
  have B : iterN (fun x => concat_s10 x.1 x.2.1 x.2.2.1 x.2.2.2.1) fuelN (([] : List Rg), ([a, b], ((([a, b] : List (List Rg)).length : Int), ((0 : Int), ())))) = some (a ++ b, ()) := by
    rw [hn, hl]
    refine (iterN_inl (y := (([] ++ a : List Rg), ([a, b], ((2 : Int), ((1 : Int), ()))))) ?_).trans ?_
    · simp only [concat_s10, d0, cond_true, l0, Option.bind_some, r1, i1]
    · refine (iterN_inl (y := ((([] ++ a) ++ b : List Rg), ([a, b], ((2 : Int), ((2 : Int), ()))))) ?_).trans ?_
      · simp only [concat_s10, d1, cond_true, l1, Option.bind_some, r2, i2]
      · refine iterN_inr ?_
        simp only [concat_s10, d2, cond_false]
        rfl
  simp only [concat, A, Option.bind_some, grow_is (a.length + b.length) (by omega), B]

/- the edges -/
def edgesOf : List Rg → List Int
  | [] => []
  | r :: l => r.1 :: (r.2 + 1) :: edgesOf l
theorem edgesOf_length : ∀ l : List Rg, (edgesOf l).length = 2 * l.length
  | [] => rfl
  | r :: l => by simp only [edgesOf, List.length_cons, edgesOf_length l]; omega
theorem mem_edgesOf {l : List Rg} {x : Int} : x ∈ edgesOf l ↔ ∃ r ∈ l, x = r.1 ∨ x = r.2 + 1 := by
  induction l with
  | nil => simp [edgesOf]
  | cons r l ih => simp [edgesOf, ih, or_assoc]

theorem edges_loop {kf : Bool → Bool → Option (Unit × (Bool × Unit))} (A B : List Rg) : ∀ (rest pre : List Rg) (g : List Int) (n : Nat), pre.length + rest.length ≤ 100000000 → g.length + 2 * rest.length ≤ 100000000 → (∀ r ∈ rest, r.2 ≤ 1114111 ∧ 0 ≤ r.2) → rest.length < n →
    iterN (fun x => runG_s6 kf x.1 x.2.1 x.2.2.2.1 x.2.2.2.2.1 x.2.2.2.2.2.1 x.2.2.2.2.2.2.1) n (A, (B, ((), (g, (pre ++ rest, (((pre ++ rest).length : Int), (((pre.length : Nat) : Int), ()))))))) =
      some (A, (B, ((), (g ++ edgesOf rest, ())))) := by
  intro rest
  induction rest with
  | nil =>
    intro pre g n h1 h2 hv hn
    obtain ⟨n, rfl⟩ := succ_of hn
    refine iterN_inr ?_
    simp [runG_s6, edgesOf]
  | cons r rest ih =>
    intro pre g n h1 h2 hv hn
    simp only [List.length_cons] at h1 h2 hn
    obtain ⟨n, rfl⟩ := succ_of hn
    have hlt : ((pre.length : Nat) : Int) < ((pre ++ r :: rest).length : Int) := lt_mid
    have ew : IntKind.i64.wrap (((pre.length : Nat) : Int) + 1) = (((pre ++ [r]).length : Nat) : Int) := w_mid (by omega)
    have hr := hv r (by simp)
    have e1 : IntKind.i32.wrap (r.2 + 1) = r.2 + 1 := wrap32 (by omega) (by omega)
    have hrm : roomOk (g.length + [r.1, r.2 + 1].length) 4 = true := roomK (by decide) (by simp; omega)
    have hs := ih (pre ++ [r]) (g ++ [r.1, r.2 + 1]) n (by simp; omega) (by simp; omega) (fun q hq => hv q (by simp [hq])) (by omega)
    rw [← app_mid] at hs
    have e : (g ++ [r.1, r.2 + 1]) ++ edgesOf rest = g ++ edgesOf (r :: rest) := by simp [edgesOf]
    rw [e] at hs
    refine (iterN_inl ?_).trans hs
    simp only [runG_s6, hlt, decide_true, cond_true, lk_mid, Option.bind_some, e1, hrm, ew]

/- what lies behind -/
def dropL (lo : Int) : List Rg → List Rg
  | [] => []
  | r :: l => if r.2 < lo then dropL lo l else r :: l
theorem dropL_length (lo : Int) : ∀ l : List Rg, (dropL lo l).length ≤ l.length
  | [] => Nat.le_refl _
  | r :: l => by
    simp only [dropL]
    split
    · have := dropL_length lo l; simp only [List.length_cons]; omega
    · exact Nat.le_refl _

theorem dropA_loop {kf : Bool → Bool → Option (Unit × (Bool × Unit))} (b : List Rg) (i lo : Int) (v : Nat × Nat) (k j : Int) (E : List Int) (o : List Rg) : ∀ (a : List Rg) (n : Nat), a.length < n →
    iterN (fun x => runG_s20 kf x.1 x.2.1 x.2.2.2.1 x.2.2.2.2.1 x.2.2.2.2.2.1 x.2.2.2.2.2.2.1 x.2.2.2.2.2.2.2.1 x.2.2.2.2.2.2.2.2.1 x.2.2.2.2.2.2.2.2.2.1) n (a, (b, ((), (E, (o, (i, (lo, (v, (k, (j, ())))))))))) =
      some (dropL lo a, (b, ((), (E, (o, (i, (lo, (v, (k, (j, ())))))))))) := by
  intro a
  induction a with
  | nil =>
    intro n hn
    obtain ⟨n, rfl⟩ := succ_of hn
    refine iterN_inr ?_
    rfl
  | cons r a ih =>
    intro n hn
    simp only [List.length_cons] at hn
    obtain ⟨n, rfl⟩ := succ_of hn
    have h0 : ((r :: a).length : Int) > 0 := by simp
    have hl : lk (r :: a) (0 : Int) = some r := rfl
    simp only [dropL]
    by_cases hc : r.2 < lo
    · rw [if_pos hc]
      refine (iterN_inl ?_).trans (ih n (by omega))
      simp only [runG_s20, h0, decide_true, cond_true, hl, Option.bind_some, hc, inB_tail, cut_tail]
    · rw [if_neg hc]
      refine iterN_inr ?_
      simp only [runG_s20, h0, decide_true, decide_false, cond_true, cond_false, hl, Option.bind_some, hc]

theorem dropB_loop {kf : Bool → Bool → Option (Unit × (Bool × Unit))} (a : List Rg) (i lo : Int) (v : Nat × Nat) (k j : Int) (E : List Int) (o : List Rg) : ∀ (b : List Rg) (n : Nat), b.length < n →
    iterN (fun x => runG_s28 kf x.1 x.2.1 x.2.2.2.1 x.2.2.2.2.1 x.2.2.2.2.2.1 x.2.2.2.2.2.2.1 x.2.2.2.2.2.2.2.1 x.2.2.2.2.2.2.2.2.1 x.2.2.2.2.2.2.2.2.2.1) n (a, (b, ((), (E, (o, (i, (lo, (v, (k, (j, ())))))))))) =
      some (a, (dropL lo b, ((), (E, (o, (i, (lo, (v, (k, (j, ())))))))))) := by
  intro b
  induction b with
  | nil =>
    intro n hn
    obtain ⟨n, rfl⟩ := succ_of hn
    refine iterN_inr ?_
    rfl
  | cons r b ih =>
    intro n hn
    simp only [List.length_cons] at hn
    obtain ⟨n, rfl⟩ := succ_of hn
    have h0 : ((r :: b).length : Int) > 0 := by simp
    have hl : lk (r :: b) (0 : Int) = some r := rfl
    simp only [dropL]
    by_cases hc : r.2 < lo
    · rw [if_pos hc]
      refine (iterN_inl ?_).trans (ih n (by omega))
      simp only [runG_s28, h0, decide_true, cond_true, hl, Option.bind_some, hc, inB_tail, cut_tail]
    · rw [if_neg hc]
      refine iterN_inr ?_
      simp only [runG_s28, h0, decide_true, decide_false, cond_true, cond_false, hl, Option.bind_some, hc]

/- - is the number in the first range -/
def fst? (lo : Int) : List Rg → Bool
  | [] => false
  | r :: _ => decide (r.1 ≤ lo)
/- - what the sweep keeps -/
def sweepL (f : Bool → Bool → Bool) : List Rg → List Rg → List Int → List Rg
  | a, b, lo :: hi :: E => (if f (fst? lo (dropL lo a)) (fst? lo (dropL lo b)) then [(lo, hi - 1)] else []) ++ sweepL f (dropL lo a) (dropL lo b) (hi :: E)
  | _, _, _ => []

theorem sweep_loop {kf : Bool → Bool → Option (Unit × (Bool × Unit))} {f : Bool → Bool → Bool} (hk : ∀ x y, kf x y = some ((), (f x y, ()))) (E : List Int) (hE : E.length ≤ 100000000) (hv : ∀ x ∈ E, 0 ≤ x ∧ x ≤ 1114112) :
    ∀ (rest pre : List Int) (last : Int) (a b o : List Rg) (n : Nat), E = pre ++ rest ++ [last] → o.length + rest.length ≤ 200000000 → a.length ≤ 10000000 → b.length ≤ 10000000 → rest.length < n →
    iterN (fun x => runG_s16 kf x.1 x.2.1 x.2.2.2.1 x.2.2.2.2.1 x.2.2.2.2.2.1 x.2.2.2.2.2.2.1 x.2.2.2.2.2.2.2.1) n (a, (b, ((), (E, (o, (((0, E.length - 1) : Nat × Nat), (((E.length - 1 : Nat) : Int), (((pre.length : Nat) : Int), ())))))))) =
      some (o ++ sweepL f a b (rest ++ [last]), ()) := by
  intro rest
  induction rest with
  | nil =>
    intro pre last a b o n he h1 ha hb hn
    obtain ⟨n, rfl⟩ := succ_of hn
    have hl : E.length = pre.length + 1 := by rw [he]; simp
    have hlt : ¬ ((pre.length : Nat) : Int) < ((E.length - 1 : Nat) : Int) := by omega
    refine iterN_inr ?_
    simp only [runG_s16, hlt, decide_false, cond_false, List.nil_append, sweepL, List.append_nil]
  | cons lo rest ih =>
    intro pre last a b o n he h1 ha hb hn
    simp only [List.length_cons] at h1 hn
    obtain ⟨n, rfl⟩ := succ_of hn
    have hl : E.length = pre.length + rest.length + 2 := by rw [he]; simp; omega
    have hlt : ((pre.length : Nat) : Int) < ((E.length - 1 : Nat) : Int) := by omega
    have hin : inR ((pre.length : Nat) : Int) (E.length - 1) = true := by
      simp only [inR, Bool.and_eq_true, decide_eq_true_eq]; omega
    have hpl : plusI 0 ((pre.length : Nat) : Int) = ((pre.length : Nat) : Int) := by simp [plusI]
    have hlk : lk E ((pre.length : Nat) : Int) = some lo := by rw [he, List.append_assoc]; exact lk_mid
    obtain ⟨hi, more, hm⟩ : ∃ hi more, rest ++ [last] = hi :: more := by cases rest with | nil => exact ⟨last, [], rfl⟩ | cons x r => exact ⟨x, r ++ [last], rfl⟩
    have he2 : E = (pre ++ [lo]) ++ hi :: more := by rw [he, List.append_assoc, List.cons_append, hm]; simp
    have ew : IntKind.i64.wrap (((pre.length : Nat) : Int) + 1) = (((pre ++ [lo]).length : Nat) : Int) := w_mid (by omega)
    have hlk2 : lk E (((pre ++ [lo]).length : Nat) : Int) = some hi := by rw [he2]; exact lk_mid
    have hhi := hv hi (by rw [he2]; simp)
    have ehi : IntKind.i32.wrap (hi - 1) = hi - 1 := wrap32 (by omega) (by omega)
    have hA := fun b i v k j E o => dropA_loop (kf := kf) b i lo v k j E o a fuelN (by have := fuelN_le; omega)
    have hB := fun a i v k j E o => dropB_loop (kf := kf) a i lo v k j E o b fuelN (by have := fuelN_le; omega)
    have ha' := dropL_length lo a
    have hb' := dropL_length lo b
    have hsw : sweepL f a b (lo :: rest ++ [last]) = (if f (fst? lo (dropL lo a)) (fst? lo (dropL lo b)) then [(lo, hi - 1)] else []) ++ sweepL f (dropL lo a) (dropL lo b) (rest ++ [last]) := by
      rw [List.cons_append, hm]; rfl
    rw [hsw]
    have hrm : roomOk (o.length + [(lo, hi - 1)].length) 8 = true := room8 (by simp; omega)
    have step : runG_s16 kf a b E o ((0, E.length - 1) : Nat × Nat) ((E.length - 1 : Nat) : Int) ((pre.length : Nat) : Int) =
        some (.inl (dropL lo a, (dropL lo b, ((), (E, (o ++ (if f (fst? lo (dropL lo a)) (fst? lo (dropL lo b)) then [(lo, hi - 1)] else []), (((0, E.length - 1) : Nat × Nat), (((E.length - 1 : Nat) : Int), ((((pre ++ [lo]).length : Nat) : Int), ()))))))))) := by
      generalize hda : dropL lo a = a' at *
      generalize hdb : dropL lo b = b' at *
      have fin : ∀ (x y : Bool), x = fst? lo a' → y = fst? lo b' → True := fun _ _ _ _ => trivial
      cases a' with
      | nil =>
        have h0 : ¬ ((([] : List Rg).length : Nat) : Int) > 0 := by simp
        cases b' with
        | nil =>
          cases hf : f false false <;>
            simp only [runG_s16, hlt, decide_true, decide_false, cond_true, cond_false, hin, hpl, hlk, Option.bind_some, hA, hB, h0, hk, fst?, hf, ew, hlk2, ehi, hrm, if_true, Bool.false_eq_true, if_false, List.append_nil]
        | cons s b' =>
          have h0' : (((s :: b').length : Nat) : Int) > 0 := by simp
          have hl' : lk (s :: b') (0 : Int) = some s := rfl
          cases hf : f false (decide (s.1 ≤ lo)) <;>
            simp only [runG_s16, hlt, decide_true, decide_false, cond_true, cond_false, hin, hpl, hlk, Option.bind_some, hA, hB, h0, h0', hl', hk, fst?, hf, ew, hlk2, ehi, hrm, if_true, Bool.false_eq_true, if_false, List.append_nil]
      | cons r a' =>
        have h0 : (((r :: a').length : Nat) : Int) > 0 := by simp
        have hl0 : lk (r :: a') (0 : Int) = some r := rfl
        cases b' with
        | nil =>
          have h0' : ¬ ((([] : List Rg).length : Nat) : Int) > 0 := by simp
          cases hf : f (decide (r.1 ≤ lo)) false <;>
            simp only [runG_s16, hlt, decide_true, decide_false, cond_true, cond_false, hin, hpl, hlk, Option.bind_some, hA, hB, h0, h0', hl0, hk, fst?, hf, ew, hlk2, ehi, hrm, if_true, Bool.false_eq_true, if_false, List.append_nil]
        | cons s b' =>
          have h0' : (((s :: b').length : Nat) : Int) > 0 := by simp
          have hl' : lk (s :: b') (0 : Int) = some s := rfl
          cases hf : f (decide (r.1 ≤ lo)) (decide (s.1 ≤ lo)) <;>
            simp only [runG_s16, hlt, decide_true, cond_true, cond_false, hin, hpl, hlk, Option.bind_some, hA, hB, h0, h0', hl0, hl', hk, fst?, hf, ew, hlk2, ehi, hrm, if_true, Bool.false_eq_true, if_false, List.append_nil]
    have hs := ih (pre ++ [lo]) last (dropL lo a) (dropL lo b) (o ++ (if f (fst? lo (dropL lo a)) (fst? lo (dropL lo b)) then [(lo, hi - 1)] else [])) n (by rw [he]; simp) (by
      rw [List.length_append]; split <;> simp <;> omega) (by omega) (by omega) (by omega)
    rw [List.append_assoc] at hs
    exact (iterN_inl step).trans hs

end Go.Vt.Sg
