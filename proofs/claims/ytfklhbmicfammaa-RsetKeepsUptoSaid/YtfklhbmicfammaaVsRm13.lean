/- The law of what is kept. -/
import Derived.Test.YtfklhbmicfammaaVsRm12
import Derived.Test.YtfklhbmicfammaaVsRs1k
set_option linter.unusedVariables false
set_option maxRecDepth 100000
namespace Go.Vs.Rs
open Go Go.Vs Go.Vs.Rm Go.Sort Go.Vs.Srt

theorem lk_at {α : Type} {g : List α} {i : Nat} (h : i < g.length) : lk g ((i : Nat) : Int) = some (g[i]'h) := by
  unfold lk; rw [if_pos (by omega)]; simp [h]
theorem rNormO_is (l : List Rg) : rNormO l = rNorm l := rfl
theorem runUO_is (a b : List Rg) : runUO a b = runU a b := rfl
theorem rUnionO_is (a b : List Rg) : rUnionO a b = rUnion a b := rfl

theorem wipe1 (a0 a5 a6 g8 : List Rg) (L : Int) : ∀ (k : Nat) (g : List Rg) (i : Nat) (n : Nat), L = (g.length : Int) → g.length = i + k → g.length ≤ 100000000 → k < n →
    ∃ g', iterN (fun x => lKeeps_s14 x.1.1 x.1.2.1 x.1.2.2.1 x.1.2.2.2.1 x.1.2.2.2.2.1 x.2.1 x.2.2.1) n ((a0, (a5, (a6, (L, (((i : Nat) : Int), ()))))), (g, (g8, ()))) = some ((a0, (a5, (a6, ()))), (g', ())) ∧ g' = g8 := by
  intro k
  induction k with
  | zero =>
    intro g i n hL h1 h2 hn
    obtain ⟨n, rfl⟩ := succ_of hn
    refine ⟨g8, iterN_inr ?_, rfl⟩
    have : ¬ ((i : Nat) : Int) < L := by rw [hL]; omega
    simp [lKeeps_s14, this]
  | succ k ih =>
    intro g i n hL h1 h2 hn
    obtain ⟨n, rfl⟩ := succ_of hn
    have hlt : ((i : Nat) : Int) < L := by rw [hL]; omega
    have ew : IntKind.i64.wrap (((i : Nat) : Int) + 1) = (((i + 1 : Nat)) : Int) := by rw [wrap64] <;> omega
    have hi : lk g ((i : Nat) : Int) = some (g[i]'(by omega)) := lk_at (show i < g.length by omega)
    obtain ⟨g', h3, h4⟩ := ih (g.set i (0, 0)) (i + 1) n (by simpa using hL) (by simp; omega) (by simpa using h2) (by omega)
    refine ⟨g', (iterN_inl ?_).trans h3, h4⟩
    simp only [lKeeps_s14, hlt, decide_true, cond_true, hi, Option.bind_some, ew, Int.toNat_natCast]

theorem wipe2 (a0 a5 a6 : List Rg) (L : Int) : ∀ (k : Nat) (g : List Rg) (i : Nat) (n : Nat), L = (g.length : Int) → g.length = i + k → g.length ≤ 100000000 → k < n →
    ∃ g', iterN (fun x => lKeeps_s21 x.1.1 x.1.2.1 x.1.2.2.1 x.1.2.2.2.1 x.1.2.2.2.2.1 x.2.1) n ((a0, (a5, (a6, (L, (((i : Nat) : Int), ()))))), (g, ())) = some ((a0, (a5, (a6, ()))), (g', ())) ∧ g'.length = g.length := by
  intro k
  induction k with
  | zero =>
    intro g i n hL h1 h2 hn
    obtain ⟨n, rfl⟩ := succ_of hn
    refine ⟨g, iterN_inr ?_, rfl⟩
    have : ¬ ((i : Nat) : Int) < L := by rw [hL]; omega
    simp [lKeeps_s21, this]
  | succ k ih =>
    intro g i n hL h1 h2 hn
    obtain ⟨n, rfl⟩ := succ_of hn
    have hlt : ((i : Nat) : Int) < L := by rw [hL]; omega
    have ew : IntKind.i64.wrap (((i : Nat) : Int) + 1) = (((i + 1 : Nat)) : Int) := by rw [wrap64] <;> omega
    have hi : lk g ((i : Nat) : Int) = some (g[i]'(by omega)) := lk_at (show i < g.length by omega)
    obtain ⟨g', h3, h4⟩ := ih (g.set i (0, 0)) (i + 1) n (by simpa using hL) (by simp; omega) (by simpa using h2) (by omega)
    refine ⟨g', (iterN_inl ?_).trans h3, by simpa using h4⟩
    simp only [lKeeps_s21, hlt, decide_true, cond_true, hi, Option.bind_some, ew, Int.toNat_natCast]

theorem more5 (a0 a5 a6 : List Rg) : ∀ (k : Nat) (g : List Rg) (i : Nat) (n : Nat), i + k = 5 → g.length ≤ 100000000 + i → k < n →
    iterN (fun x => lKeeps_s28 x.1.1 x.1.2.1 x.1.2.2.1 x.1.2.2.2.1 x.2.1) n ((a0, (a5, (a6, (((i : Nat) : Int), ())))), (g, ())) = some ((a0, (a5, (a6, ()))), ()) := by
  intro k
  induction k with
  | zero =>
    intro g i n h1 h2 hn
    obtain ⟨n, rfl⟩ := succ_of hn
    refine iterN_inr ?_
    have : ¬ ((i : Nat) : Int) < 5 := by omega
    simp [lKeeps_s28, this]
  | succ k ih =>
    intro g i n h1 h2 hn
    obtain ⟨n, rfl⟩ := succ_of hn
    have hlt : ((i : Nat) : Int) < 5 := by omega
    have ew : IntKind.i64.wrap (((i : Nat) : Int) + 1) = (((i + 1 : Nat)) : Int) := by rw [wrap64] <;> omega
    have hr : roomOk (g.length + [((0 : Int), (0 : Int))].length) 8 = true := room8 (by simp; omega)
    have h3 := ih (g ++ [((0 : Int), (0 : Int))]) (i + 1) n (by omega) (by simp; omega) (by omega)
    refine (iterN_inl ?_).trans h3
    simp only [lKeeps_s28, hlt, decide_true, cond_true, hr, ew]

theorem lKeeps_is (a b : List Rg) (ha : a.length ≤ 10000000) (hb : b.length ≤ 10000000) : lKeeps a b = some ((), (true, ())) := by
  have w2 : IntKind.i64.wrap ((a.length : Int) + (2 : Int)) = ((a.length + 2 : Nat) : Int) := by rw [wrap64] <;> omega
  have m1 : mkOk 8 (0 : Int) ((a.length + 2 : Nat) : Int) = true := by
    simp only [mkOk, Bool.and_eq_true, decide_eq_true_eq]; omega
  have p1 : putL (List.replicate (a.length + 2) ((0 : Int), (0 : Int))) 0 a = a ++ [((0 : Int), (0 : Int)), (0, 0)] := by
    have e : a.length + 2 - a.length = 2 := by omega
    simp [putL, e]
  have e1 : decide (0 + (Int.toNat (0 : Int)) + a.length ≤ (List.replicate (a.length + 2) ((0 : Int), (0 : Int))).length) = true := by simp
  have e2 : inB (0 : Int) ((a.length + 2 : Nat) : Int) (((a ++ [((0 : Int), (0 : Int)), (0, 0)]).length - 0 : Nat) : Int) = true := by
    simp [inB]; omega
  have e3 : inR (a.length : Int) (((a.length + 2 : Nat) : Int) - (0 : Int)).toNat = true := by
    simp only [inR, Bool.and_eq_true, decide_eq_true_eq]; omega
  have e4 : lk (a ++ [((0 : Int), (0 : Int)), (0, 0)]) (plusI (0 + (0 : Int).toNat) (a.length : Int)) = some (0, 0) := by
    have : plusI (0 + (0 : Int).toNat) (a.length : Int) = (a.length : Int) := by simp [plusI]
    rw [this]; exact lk_mid
  have e5 : (a ++ [((0 : Int), (0 : Int)), (0, 0)]).set (plusI (0 + (0 : Int).toNat) (a.length : Int)).toNat ((77 : Int), (0 : Int)) = a ++ [(77, 0), (0, 0)] := by
    have : (plusI (0 + (0 : Int).toNat) (a.length : Int)).toNat = a.length := by simp [plusI]
    rw [this]; simp
  have e6 : ((a ++ [((77 : Int), (0 : Int)), (0, 0)]).drop 0).take ((Int.toNat (0 : Int)) + a.length) = a := by simp
  have e7 : ((a ++ [((77 : Int), (0 : Int)), (0, 0)]).drop (0 + (0 : Int).toNat)).take (((a.length + 2 : Nat) : Int) - (0 : Int)).toNat = a ++ [(77, 0), (0, 0)] := by
    have : (((a.length + 2 : Nat) : Int) - (0 : Int)).toNat = a.length + 2 := by omega
    rw [this]
    simp only [Int.toNat_zero, Nat.add_zero, List.drop_zero]
    rw [List.take_of_length_le (by simp)]
  obtain ⟨u1, u2⟩ := rUnion_is a b ha hb
  have u3 := op_len u2
  have n1 := rNorm_eq' a (by omega)
  have n2 := nrm_len (norm_spec a).1
  have o1 := (rNot_is a ha).1
  have o2 := (rMeet_is b a hb ha).1
  obtain ⟨g', q1, rfl⟩ := wipe1 a a (a ++ [(77, 0), (0, 0)]) (norm a) ((opS uB a b).length : Int) (opS uB a b).length (opS uB a b) 0 fuelN rfl (by omega) (by omega) (by have := fuelN_le; omega)
  obtain ⟨g2, q2, q3⟩ := wipe2 a a (a ++ [(77, 0), (0, 0)]) ((norm a).length : Int) (norm a).length (norm a) 0 fuelN rfl (by omega) (by omega) (by have := fuelN_le; omega)
  have q4 := more5 a a (a ++ [(77, 0), (0, 0)]) 5 g2 0 fuelN (by omega) (by omega) (by have := fuelN_le; omega)
  have s1 := refSame_is a a (by omega)
  have s2 := refNorm_is a (by omega)
  have s3 := refSame_is (norm a) (norm a) (by omega)
  have l1 : lk (a ++ [((77 : Int), (0 : Int)), (0, 0)]) (a.length : Int) = some (77, 0) := lk_mid
  simp only [decide_true] at s1 s3
  simp only [Int.natCast_zero] at q1 q2 q4
  have z0 : 0 + (Int.toNat (0 : Int)) = 0 := rfl
  have zt : Int.toNat ((a.length + 2 : Nat) : Int) = a.length + 2 := by omega
  have f4 : lk (a ++ [((0 : Int), (0 : Int)), (0, 0)]) (plusI 0 (a.length : Int)) = some (0, 0) := e4
  have f5 : (a ++ [((0 : Int), (0 : Int)), (0, 0)]).set (plusI 0 (a.length : Int)).toNat ((77 : Int), (0 : Int)) = a ++ [(77, 0), (0, 0)] := e5
  have f6 : (a ++ [((77 : Int), (0 : Int)), (0, 0)]).take a.length = a := by simp
  have f7 : (a ++ [((77 : Int), (0 : Int)), (0, 0)]).take ((a.length : Int) + 2).toNat = a ++ [(77, 0), (0, 0)] := by
    have : ((a.length : Int) + 2).toNat = a.length + 2 := by omega
    rw [this, List.take_of_length_le (by simp)]
  simp only [lKeeps, fixed_is, Option.bind_some, Bool.not_true, cond_false, cond_true, w2, m1, zt, z0, p1, e2, e3, f4]
  have f8 : (a ++ [((77 : Int), (0 : Int)), (0, 0)]).take (((a.length + 2 : Nat) : Int)).toNat = a ++ [(77, 0), (0, 0)] := f7
  simp only [f5, e6, rUnionO_is, rNormO_is, u1, n1, o1, o2, Option.bind_some]
  have f9 : ((((a.length + 2 : Nat) : Int)) - (0 : Int)).toNat = a.length + 2 := by omega
  have f10 : (a ++ [((77 : Int), (0 : Int)), (0, 0)]).take (a.length + 2) = a ++ [(77, 0), (0, 0)] := List.take_of_length_le (by simp)
  have f11 : decide (0 + a.length ≤ (List.replicate (a.length + 2) ((0 : Int), (0 : Int))).length) = true := by simp
  simp only [f9, f10, f11, List.drop_zero, q1, q2, q4, Option.bind_some, s1, s2, s3, l1, cond_true, n1]
  simp
end Go.Vs.Rs
