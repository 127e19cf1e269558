/- The laws of algebra, members and points. -/
import Derived.Test.YtfklhbmicfammaaVsRm9
set_option linter.unusedVariables false
set_option maxRecDepth 100000
namespace Go.Vs.Rs
open Go Go.Vs Go.Vs.Rm Go.Sort Go.Vs.Srt

theorem lAlgebra_is (a b c : List Rg) (ha : a.length ≤ 10000000) (hb : b.length ≤ 10000000) (hc : c.length ≤ 10000000) : lAlgebra a b c = some ((), (true, ())) := by
  obtain ⟨u1, u2⟩ := rUnion_is a b ha hb
  obtain ⟨m1, m2⟩ := rMeet_is a b ha hb
  obtain ⟨n1, n2⟩ := rNot_is a ha
  obtain ⟨k1, k2⟩ := rNot_is b hb
  obtain ⟨d1, d2⟩ := rMinus_is a b ha hb
  have lu := op_len u2
  have lm := op_len m2
  have ln := op_len n2
  have lk' := op_len k2
  have ld := op_len d2
  obtain ⟨nn1, nn2⟩ := rNot_is (opS nB a []) (by omega)
  obtain ⟨nu1, nu2⟩ := rNot_is (opS uB a b) (by omega)
  obtain ⟨x1, x2⟩ := rMeet_is (opS nB a []) (opS nB b []) (by omega) (by omega)
  obtain ⟨y1, y2⟩ := rMeet_is a (opS nB b []) ha (by omega)
  obtain ⟨p1, p2⟩ := rUnion_is (opS mB a b) c (by omega) hc
  obtain ⟨q1, q2⟩ := rUnion_is a c ha hc
  obtain ⟨r1, r2⟩ := rUnion_is b c hb hc
  have lq := op_len q2
  have lr := op_len r2
  obtain ⟨s1, s2⟩ := rMeet_is (opS uB a c) (opS uB b c) (by omega) (by omega)
  obtain ⟨t1, t2⟩ := rUnion_is b a hb ha
  have lnn := op_len nn2
  have lnu := op_len nu2
  have lx := op_len x2
  have ly := op_len y2
  have lp := op_len p2
  have ls := op_len s2
  have lt := op_len t2
  have e1 : opS nB (opS nB a []) [] = norm a := op_of (norm_spec a).1 fun x h0 h1 => by
    rw [has_norm h0 h1, op_has n2 h0 h1]; simp [nB]
  have e2 : opS nB (opS uB a b) [] = opS mB (opS nB a []) (opS nB b []) := op_of x2.1 fun x h0 h1 => by
    rw [op_has x2 h0 h1, op_has n2 h0 h1, op_has k2 h0 h1, op_has u2 h0 h1]; simp [nB, uB, mB]
  have e3 : opS dB a b = opS mB a (opS nB b []) := op_of y2.1 fun x h0 h1 => by
    rw [op_has y2 h0 h1, op_has k2 h0 h1]; simp [nB, dB, mB]
  have e4 : opS uB (opS mB a b) c = opS mB (opS uB a c) (opS uB b c) := op_of s2.1 fun x h0 h1 => by
    rw [op_has s2 h0 h1, op_has q2 h0 h1, op_has r2 h0 h1, op_has m2 h0 h1]
    simp only [uB, mB]
    cases has a x <;> cases has b x <;> cases has c x <;> rfl
  have e5 : opS uB a b = opS uB b a := op_of t2.1 fun x h0 h1 => by
    rw [op_has t2 h0 h1]; simp only [uB]; exact Bool.or_comm _ _
  have na := norm_nrm (norm_spec a).1
  have lna := nrm_len (norm_spec a).1
  have w1 := rEqual_is (opS nB (opS nB a []) []) a (by omega) (by omega)
  rw [e1] at w1
  rw [na] at w1
  have w2 := refSame_is (opS nB (opS nB a []) []) (norm a) (by omega)
  rw [e1] at w2
  have w3 := rEqual_is (opS nB (opS uB a b) []) (opS mB (opS nB a []) (opS nB b [])) (by omega) (by omega)
  rw [e2] at w3
  have w4 := rEqual_is (opS dB a b) (opS mB a (opS nB b [])) (by omega) (by omega)
  rw [e3] at w4
  have w5 := rEqual_is (opS uB (opS mB a b) c) (opS mB (opS uB a c) (opS uB b c)) (by omega) (by omega)
  rw [e4] at w5
  have w6 := rEqual_is (opS uB a b) (opS uB b a) (by omega) (by omega)
  rw [← e5] at w6
  simp only [decide_true] at w1 w2 w3 w4 w5 w6
  have nuu := norm_nrm u2.1
  have nmm := norm_nrm m2.1
  have nnn := norm_nrm n2.1
  have c1 := rCount_is (opS uB a b) (by omega)
  have c2 := rCount_is (opS mB a b) (by omega)
  have c3 := rCount_is a (by omega)
  have c4 := rCount_is b (by omega)
  have c5 := rCount_is (opS nB a []) (by omega)
  rw [nuu] at c1
  rw [nmm] at c2
  rw [nnn] at c5
  have f1 := cntL_nrm u2.1
  have f2 := cntL_nrm m2.1
  have f3 := cntL_nrm (norm_spec a).1
  have f4 := cntL_nrm (norm_spec b).1
  have f5 := cntL_nrm n2.1
  have g1 : card (has (opS uB a b)) 0 1114112 = card (fun x => has (norm a) x || has (norm b) x) 0 1114112 := card_congr _ _ fun x h0 h1 => by
    have h1' : x ≤ 1114111 := by omega
    rw [op_has u2 h0 h1', has_norm h0 h1', has_norm h0 h1']; rfl
  have g2 : card (has (opS mB a b)) 0 1114112 = card (fun x => has (norm a) x && has (norm b) x) 0 1114112 := card_congr _ _ fun x h0 h1 => by
    have h1' : x ≤ 1114111 := by omega
    rw [op_has m2 h0 h1', has_norm h0 h1', has_norm h0 h1']; rfl
  have g5 : card (has (opS nB a [])) 0 1114112 = card (fun x => !has (norm a) x) 0 1114112 := card_congr _ _ fun x h0 h1 => by
    have h1' : x ≤ 1114111 := by omega
    rw [op_has n2 h0 h1', has_norm h0 h1']; rfl
  have o1 := card_or (p := has (norm a)) (q := has (norm b)) 1114112 0
  have o2 := card_not (p := has (norm a)) 1114112 0
  have b1 := card_le (p := has (norm a)) 1114112 0
  have b2 := card_le (p := has (norm b)) 1114112 0
  have z1 : IntKind.i64.wrap (cntL (opS uB a b) + cntL (opS mB a b)) = IntKind.i64.wrap (cntL (norm a) + cntL (norm b)) := by
    have e : cntL (opS uB a b) + cntL (opS mB a b) = cntL (norm a) + cntL (norm b) := by
      rw [f1, f2, f3, f4, g1, g2]
      generalize card (fun x => has (norm a) x || has (norm b) x) 0 1114112 = k1 at *
      generalize card (fun x => has (norm a) x && has (norm b) x) 0 1114112 = k2 at *
      generalize card (has (norm a)) 0 1114112 = k3 at *
      generalize card (has (norm b)) 0 1114112 = k4 at *
      omega
    rw [e]
  have z2 : IntKind.i64.wrap (cntL (norm a) + cntL (opS nB a [])) = 1114112 := by
    have e : cntL (norm a) + cntL (opS nB a []) = 1114112 := by
      rw [f3, f5, g5]
      generalize card (fun x => !has (norm a) x) 0 1114112 = k1 at *
      generalize card (has (norm a)) 0 1114112 = k3 at *
      omega
    rw [e]; decide
  simp only [lAlgebra, fixed_is, Option.bind_some, Bool.not_true, cond_false, cond_true, u1, m1, n1, k1, d1, nn1, e1, w1, rNorm_eq' a (by omega), w2, nu1, e2, x1, w3, e3, y1, w4, c1, c2, c3, c4, c5, z1, beq_self_eq_true, p1, q1, r1, s1, e4, w5, t1, ← e5, w6, z2]

/- members -/
section
variable (A1 A2 : List Rg) (A3 : List Int) (A7 A8 A9 A10 : List Rg)

theorem nrm_loop (z1 z2 : Int) (G : List (List Rg)) (L : List Rg) : ∀ (rest pre : List Rg) (b : Int) (n : Nat), L = pre ++ rest → L.length ≤ 100000000 → NrmF b rest → 0 ≤ b → (pre = [] ∨ ∃ p q, pre = p ++ [q] ∧ b = q.2 + 2 ∧ q.2 ≤ 1114111) → rest.length < n →
    iterN (fun x => lMembers_s15 x.1.1 x.1.2.1 x.1.2.2.1 x.1.2.2.2.1 x.1.2.2.2.2.1 x.1.2.2.2.2.2.1 x.1.2.2.2.2.2.2.1 x.1.2.2.2.2.2.2.2.1 x.1.2.2.2.2.2.2.2.2.1 x.1.2.2.2.2.2.2.2.2.2.1 x.1.2.2.2.2.2.2.2.2.2.2.1 x.1.2.2.2.2.2.2.2.2.2.2.2.1 x.1.2.2.2.2.2.2.2.2.2.2.2.2.1 x.2.1) n ((A1, (A2, (A3, (A7, (A8, (A9, (A10, (L, (z1, (z2, (L, ((L.length : Int), (((pre.length : Nat) : Int), ()))))))))))))), (G, ())) =
      some (.inr ((A1, (A2, (A3, (A7, (A8, (A9, (A10, (z1, (z2, ()))))))))), (G, ()))) := by
  intro rest
  induction rest with
  | nil =>
    intro pre b n hL hl h hb hp hn
    obtain ⟨n, rfl⟩ := succ_of hn
    refine iterN_inr ?_
    have : ¬ ((pre.length : Nat) : Int) < (L.length : Int) := by rw [hL]; simp
    simp only [lMembers_s15, this, decide_false, cond_false]
  | cons r rest ih =>
    intro pre b n hL hl h hb hp hn
    simp only [List.length_cons] at hn
    obtain ⟨n, rfl⟩ := succ_of hn
    obtain ⟨h1, h2, h3, h4⟩ := h
    have hll : L.length = pre.length + rest.length + 1 := by rw [hL]; simp; omega
    have hlt : ((pre.length : Nat) : Int) < (L.length : Int) := by omega
    have ew : IntKind.i64.wrap (((pre.length : Nat) : Int) + 1) = (((pre ++ [r]).length : Nat) : Int) := w_mid (by omega)
    have hk : lk L ((pre.length : Nat) : Int) = some r := by rw [hL]; exact lk_mid
    have hs := ih (pre ++ [r]) (r.2 + 2) n (by rw [hL]; simp) hl h4 (by omega) (.inr ⟨pre, r, rfl, rfl, h3⟩) (by omega)
    have n1 : ¬ r.1 < 0 := by omega
    have n2 : ¬ r.1 > r.2 := by omega
    have n3 : ¬ r.2 > 1114111 := by omega
    refine (iterN_inl ?_).trans hs
    rcases hp with rfl | ⟨p, q, rfl, hq1, hq2⟩
    · have z0 : ¬ ((([] : List Rg).length : Nat) : Int) > 0 := by simp
      simp only [lMembers_s15, hlt, decide_true, decide_false, cond_true, cond_false, hk, Option.bind_some, n1, n2, n3, z0, ew]
    · have z0 : (((p ++ [q]).length : Nat) : Int) > 0 := by rw [len_succ]; omega
      have w1 : IntKind.i64.wrap ((((p ++ [q]).length : Nat) : Int) - 1) = ((p.length : Nat) : Int) := w_last (by simp at hll; omega)
      have hk2 : lk L ((p.length : Nat) : Int) = some q := by rw [hL, List.append_assoc]; exact lk_mid
      have w2 : IntKind.i32.wrap (q.2 + 2) = q.2 + 2 := wrap32 (by omega) (by omega)
      have n4 : ¬ r.1 < q.2 + 2 := by omega
      simp only [lMembers_s15, hlt, decide_true, decide_false, cond_true, cond_false, hk, Option.bind_some, n1, n2, n3, z0, w1, hk2, w2, n4, ew]

theorem all_nrm_loop (G : List (List Rg)) : ∀ (rest pre : List (List Rg)) (n : Nat), G = pre ++ rest → G.length ≤ 1000 → (∀ l ∈ rest, Nrm l) → rest.length < n →
    iterN (fun x => lMembers_s11 x.1.1 x.1.2.1 x.1.2.2.1 x.1.2.2.2.1 x.1.2.2.2.2.1 x.1.2.2.2.2.2.1 x.1.2.2.2.2.2.2.1 x.1.2.2.2.2.2.2.2.1 x.1.2.2.2.2.2.2.2.2.1 x.2.1) n ((A1, (A2, (A3, (A7, (A8, (A9, (A10, ((G.length : Int), (((pre.length : Nat) : Int), ()))))))))), (G, ())) =
      some (.inr ((A1, (A2, (A3, (A7, (A8, (A9, (A10, ()))))))), ())) := by
  intro rest
  induction rest with
  | nil =>
    intro pre n hG hl h hn
    obtain ⟨n, rfl⟩ := succ_of hn
    refine iterN_inr ?_
    have : ¬ ((pre.length : Nat) : Int) < (G.length : Int) := by rw [hG]; simp
    simp only [lMembers_s11, this, decide_false, cond_false]
  | cons l rest ih =>
    intro pre n hG hl h hn
    simp only [List.length_cons] at hn
    obtain ⟨n, rfl⟩ := succ_of hn
    have hll : G.length = pre.length + rest.length + 1 := by rw [hG]; simp; omega
    have hlt : ((pre.length : Nat) : Int) < (G.length : Int) := by omega
    have ew : IntKind.i64.wrap (((pre.length : Nat) : Int) + 1) = (((pre ++ [l]).length : Nat) : Int) := w_mid (by omega)
    have hk : lk G ((pre.length : Nat) : Int) = some l := by rw [hG]; exact lk_mid
    have hN := h l (by simp)
    have ln := nrm_len hN
    have hi := nrm_loop A1 A2 A3 A7 A8 A9 A10 (G.length : Int) ((pre.length : Nat) : Int) G l l [] 0 fuelN rfl (by omega) hN (Int.le_refl _) (.inl rfl) (by have := fuelN_le; omega)
    have hi' : iterN (fun x => lMembers_s15 x.1.1 x.1.2.1 x.1.2.2.1 x.1.2.2.2.1 x.1.2.2.2.2.1 x.1.2.2.2.2.2.1 x.1.2.2.2.2.2.2.1 x.1.2.2.2.2.2.2.2.1 x.1.2.2.2.2.2.2.2.2.1 x.1.2.2.2.2.2.2.2.2.2.1 x.1.2.2.2.2.2.2.2.2.2.2.1 x.1.2.2.2.2.2.2.2.2.2.2.2.1 x.1.2.2.2.2.2.2.2.2.2.2.2.2.1 x.2.1) fuelN ((A1, (A2, (A3, (A7, (A8, (A9, (A10, (l, ((G.length : Int), (((pre.length : Nat) : Int), (l, ((l.length : Int), ((0 : Int), ()))))))))))))), (G, ())) = some (.inr ((A1, (A2, (A3, (A7, (A8, (A9, (A10, ((G.length : Int), (((pre.length : Nat) : Int), ()))))))))), (G, ()))) := hi
    have hs := ih (pre ++ [l]) n (by rw [hG]; simp) hl (fun q hq => h q (by simp [hq])) (by omega)
    refine (iterN_inl ?_).trans hs
    simp only [lMembers_s11, hlt, decide_true, cond_true, hk, Option.bind_some, hi', ew]

theorem pts_loop (z1 z2 : Int) (Q : List (List Rg)) : ∀ (rest pre : List Rg) (g : List Int) (n : Nat), pre.length + rest.length ≤ 50000000 → g.length + 4 * rest.length ≤ 500000000 → rest.length < n →
    ∃ g', iterN (fun x => lMembers_s28 x.1.1 x.1.2.1 x.1.2.2.1 x.1.2.2.2.1 x.1.2.2.2.2.1 x.1.2.2.2.2.2.1 x.1.2.2.2.2.2.2.1 x.1.2.2.2.2.2.2.2.1 x.1.2.2.2.2.2.2.2.2.1 x.1.2.2.2.2.2.2.2.2.2.1 x.1.2.2.2.2.2.2.2.2.2.2.1 x.2.1 x.2.2.1) n ((A1, (A2, (A7, (A8, (A9, (A10, (z1, (z2, (pre ++ rest, (((pre ++ rest).length : Int), (((pre.length : Nat) : Int), ()))))))))))), (g, (Q, ()))) =
      some ((A1, (A2, (A7, (A8, (A9, (A10, (z1, (z2, ())))))))), (g', (Q, ()))) ∧ g'.length = g.length + 4 * rest.length := by
  intro rest
  induction rest with
  | nil =>
    intro pre g n h1 h2 hn
    obtain ⟨n, rfl⟩ := succ_of hn
    refine ⟨g, iterN_inr ?_, rfl⟩
    simp [lMembers_s28]
  | cons r rest ih =>
    intro pre g n h1 h2 hn
    simp only [List.length_cons] at h1 h2 hn
    obtain ⟨n, rfl⟩ := succ_of hn
    have hlt : ((pre.length : Nat) : Int) < ((pre ++ r :: rest).length : Int) := lt_mid
    have ew : IntKind.i64.wrap (((pre.length : Nat) : Int) + 1) = (((pre ++ [r]).length : Nat) : Int) := w_mid (by omega)
    have hrm : roomOk (g.length + [r.1, r.2, (IntKind.i32.wrap (r.1 - (1 : Int))), (IntKind.i32.wrap (r.2 + (1 : Int)))].length) 4 = true := roomK (by decide) (by simp; omega)
    obtain ⟨g', hs, hg⟩ := ih (pre ++ [r]) (g ++ [r.1, r.2, (IntKind.i32.wrap (r.1 - (1 : Int))), (IntKind.i32.wrap (r.2 + (1 : Int)))]) n (by simp; omega) (by simp; omega) (by omega)
    rw [← app_mid] at hs
    refine ⟨g', (iterN_inl ?_).trans hs, by rw [hg]; simp; omega⟩
    simp only [lMembers_s28, hlt, decide_true, cond_true, lk_mid, Option.bind_some, hrm, ew]

theorem all_pts_loop (Q : List (List Rg)) : ∀ (rest pre : List (List Rg)) (g : List Int) (n : Nat), Q = pre ++ rest → Q.length ≤ 10 → (∀ l ∈ rest, l.length ≤ 10000000) → g.length + 40000000 * rest.length ≤ 500000000 → rest.length < n →
    ∃ g', iterN (fun x => lMembers_s24 x.1.1 x.1.2.1 x.1.2.2.1 x.1.2.2.2.1 x.1.2.2.2.2.1 x.1.2.2.2.2.2.1 x.1.2.2.2.2.2.2.1 x.1.2.2.2.2.2.2.2.1 x.2.1 x.2.2.1) n ((A1, (A2, (A7, (A8, (A9, (A10, ((Q.length : Int), (((pre.length : Nat) : Int), ())))))))), (g, (Q, ()))) =
      some ((A1, (A2, (A7, (A8, (A9, (A10, ())))))), (g', ())) ∧ g'.length ≤ g.length + 40000000 * rest.length := by
  intro rest
  induction rest with
  | nil =>
    intro pre g n hQ h0 h1 h2 hn
    obtain ⟨n, rfl⟩ := succ_of hn
    refine ⟨g, iterN_inr ?_, by simp⟩
    have : ¬ ((pre.length : Nat) : Int) < (Q.length : Int) := by rw [hQ]; simp
    simp only [lMembers_s24, this, decide_false, cond_false]
  | cons l rest ih =>
    intro pre g n hQ h0 h1 h2 hn
    simp only [List.length_cons] at h2 hn
    obtain ⟨n, rfl⟩ := succ_of hn
    have hll : Q.length = pre.length + rest.length + 1 := by rw [hQ]; simp; omega
    have hlt : ((pre.length : Nat) : Int) < (Q.length : Int) := by omega
    have ew : IntKind.i64.wrap (((pre.length : Nat) : Int) + 1) = (((pre ++ [l]).length : Nat) : Int) := w_mid (by omega)
    have hk : lk Q ((pre.length : Nat) : Int) = some l := by rw [hQ]; exact lk_mid
    have hl := h1 l (by simp)
    obtain ⟨g1, hi, hg1⟩ := pts_loop A1 A2 A7 A8 A9 A10 (Q.length : Int) ((pre.length : Nat) : Int) Q l [] g fuelN (by simp; omega) (by omega) (by have := fuelN_le; omega)
    have hi' : iterN (fun x => lMembers_s28 x.1.1 x.1.2.1 x.1.2.2.1 x.1.2.2.2.1 x.1.2.2.2.2.1 x.1.2.2.2.2.2.1 x.1.2.2.2.2.2.2.1 x.1.2.2.2.2.2.2.2.1 x.1.2.2.2.2.2.2.2.2.1 x.1.2.2.2.2.2.2.2.2.2.1 x.1.2.2.2.2.2.2.2.2.2.2.1 x.2.1 x.2.2.1) fuelN ((A1, (A2, (A7, (A8, (A9, (A10, ((Q.length : Int), (((pre.length : Nat) : Int), (l, ((l.length : Int), ((0 : Int), ()))))))))))), (g, (Q, ()))) = some ((A1, (A2, (A7, (A8, (A9, (A10, ((Q.length : Int), (((pre.length : Nat) : Int), ())))))))), (g1, (Q, ()))) := hi
    obtain ⟨g', hs, hg⟩ := ih (pre ++ [l]) g1 n (by rw [hQ]; simp) h0 (fun q hq => h1 q (by simp [hq])) (by omega) (by omega)
    refine ⟨g', (iterN_inl ?_).trans hs, by simp only [List.length_cons]; omega⟩
    simp only [lMembers_s24, hlt, decide_true, cond_true, hk, Option.bind_some, hi', ew]

theorem ask_loop (a b : List Rg) (ha : a.length ≤ 10000000) (hb : b.length ≤ 10000000) (u2 : IsOp uB a b A7) (m2 : IsOp mB a b A8) (d2 : IsOp dB a b A9) (n2 : IsOp nB a [] A10) : ∀ (rest pre : List Int) (n : Nat), pre.length + rest.length ≤ 1000000000 → rest.length < n →
    iterN (fun x => lMembers_s35 x.1.1 x.1.2.1 x.1.2.2.1 x.1.2.2.2.1 x.1.2.2.2.2.1 x.1.2.2.2.2.2.1 x.1.2.2.2.2.2.2.1 x.1.2.2.2.2.2.2.2.1 x.2.1) n ((a, (b, (A7, (A8, (A9, (A10, (((pre ++ rest).length : Int), (((pre.length : Nat) : Int), ())))))))), (pre ++ rest, ())) = some (.inr ((), ())) := by
  intro rest
  induction rest with
  | nil =>
    intro pre n h1 hn
    obtain ⟨n, rfl⟩ := succ_of hn
    refine iterN_inr ?_
    simp [lMembers_s35]
  | cons x rest ih =>
    intro pre n h1 hn
    simp only [List.length_cons] at h1 hn
    obtain ⟨n, rfl⟩ := succ_of hn
    have hlt : ((pre.length : Nat) : Int) < ((pre ++ x :: rest).length : Int) := lt_mid
    have ew : IntKind.i64.wrap (((pre.length : Nat) : Int) + 1) = (((pre ++ [x]).length : Nat) : Int) := by
      rw [len_succ]; exact w_succ (by omega)
    have hs := ih (pre ++ [x]) n (by simp; omega) (by omega)
    rw [← app_mid] at hs
    refine (iterN_inl ?_).trans hs
    have k1 := refHas_is a x (by omega)
    have k2 := refHas_is b x (by omega)
    have k3 := rHas_is a x (by omega)
    have k4 := rHas_is A7 x (by have := op_len u2; omega)
    have k5 := rHas_is A8 x (by have := op_len m2; omega)
    have k6 := rHas_is A9 x (by have := op_len d2; omega)
    have k7 := rHas_is A10 x (by have := op_len n2; omega)
    have k8 := rNorm_eq' a (by omega)
    have k9 := rHas_is (norm a) x (by have := nrm_len (norm_spec a).1; omega)
    have t1 : (true == true) = true := rfl
    have t2 : (true == false) = false := rfl
    have t3 : (false == true) = false := rfl
    have t4 : (false == false) = true := rfl
    by_cases c : 0 ≤ x ∧ x ≤ 1114111
    · obtain ⟨c1, c2⟩ := c
      have hh : ∀ l, hv l x = has l x := fun l => by simp [hv, c1, c2]
      rw [hh] at k1 k2 k3 k4 k5 k6 k7 k9
      rw [op_has u2 c1 c2] at k4
      rw [op_has m2 c1 c2] at k5
      rw [op_has d2 c1 c2] at k6
      rw [op_has n2 c1 c2] at k7
      rw [has_norm c1 c2] at k9
      simp only [uB, mB, dB, nB] at k4 k5 k6 k7
      cases e1 : has a x <;> cases e2 : has b x <;> rw [e1] at k1 k3 k4 k5 k6 k7 k9 <;> rw [e2] at k2 k4 k5 k6 <;>
        simp only [Bool.or_true, Bool.or_false, Bool.and_true, Bool.and_false, Bool.not_true, Bool.not_false] at k4 k5 k6 k7 <;>
        simp only [lMembers_s35, hlt, decide_true, cond_true, cond_false, lk_mid, Option.bind_some, k1, k2, k3, k4, k5, k6, k7, k8, k9, t1, t4, Bool.not_true, Bool.not_false, ge_iff_le, c1, c2, ew]
    · have hh : ∀ l, hv l x = false := fun l => by
        by_cases c1 : 0 ≤ x
        · have c2 : ¬ x ≤ 1114111 := fun c2 => c ⟨c1, c2⟩
          simp [hv, c2]
        · simp [hv, c1]
      rw [hh] at k1 k2 k3 k4 k5 k6 k7 k9
      by_cases c1 : 0 ≤ x
      · have c2 : ¬ x ≤ 1114111 := fun c2 => c ⟨c1, c2⟩
        simp only [lMembers_s35, hlt, decide_true, decide_false, cond_true, cond_false, lk_mid, Option.bind_some, k1, k2, k3, k4, k5, k6, k7, k8, k9, t4, Bool.not_true, Bool.not_false, ge_iff_le, c1, c2, ew]
      · simp only [lMembers_s35, hlt, decide_true, decide_false, cond_true, cond_false, lk_mid, Option.bind_some, k1, k2, k3, k4, k5, k6, k7, k8, k9, t4, Bool.not_true, Bool.not_false, ge_iff_le, c1, ew]
end

theorem lMembers_is (a b : List Rg) (c : List Int) (ha : a.length ≤ 10000000) (hb : b.length ≤ 10000000) (hc : c.length ≤ 10000000) : lMembers a b c = some ((), (true, ())) := by
  obtain ⟨u1, u2⟩ := rUnion_is a b ha hb
  obtain ⟨m1, m2⟩ := rMeet_is a b ha hb
  obtain ⟨d1, d2⟩ := rMinus_is a b ha hb
  obtain ⟨n1, n2⟩ := rNot_is a ha
  generalize opS uB a b = U at *
  generalize opS mB a b = M at *
  generalize opS dB a b = D at *
  generalize opS nB a [] = N at *
  have h1 := all_nrm_loop a b c U M D N [U, M, D, N, norm a] [U, M, D, N, norm a] [] fuelN rfl (by simp) (by
    intro l hl
    simp only [List.mem_cons, List.not_mem_nil, or_false] at hl
    rcases hl with rfl | rfl | rfl | rfl | rfl
    · exact u2.1
    · exact m2.1
    · exact d2.1
    · exact n2.1
    · exact (norm_spec a).1) (by have := fuelN_le; simp; omega)
  have h1' : iterN (fun x => lMembers_s11 x.1.1 x.1.2.1 x.1.2.2.1 x.1.2.2.2.1 x.1.2.2.2.2.1 x.1.2.2.2.2.2.1 x.1.2.2.2.2.2.2.1 x.1.2.2.2.2.2.2.2.1 x.1.2.2.2.2.2.2.2.2.1 x.2.1) fuelN ((a, (b, (c, (U, (M, (D, (N, (([U, M, D, N, norm a].length : Int), ((0 : Int), ()))))))))), ([U, M, D, N, norm a], ())) = some (.inr ((a, (b, (c, (U, (M, (D, (N, ()))))))), ())) := h1
  have hq4 : ([(0 : Int), (1114111 : Int), (-1 : Int), (1114112 : Int)] ++ c).length = c.length + 4 := by
    rw [List.length_append, show [(0 : Int), (1114111 : Int), (-1 : Int), (1114112 : Int)].length = 4 from rfl]; omega
  have hq : ([(0 : Int), (1114111 : Int), (-1 : Int), (1114112 : Int)] ++ c).length + 40000000 * [a, b].length ≤ 500000000 := by
    rw [hq4, show [a, b].length = 2 from rfl]; omega
  obtain ⟨g, h2, h3⟩ := all_pts_loop a b U M D N [a, b] [a, b] [] ([(0 : Int), (1114111 : Int), (-1 : Int), (1114112 : Int)] ++ c) fuelN rfl (by simp) (by
    intro l hl
    simp only [List.mem_cons, List.not_mem_nil, or_false] at hl
    rcases hl with rfl | rfl
    · exact ha
    · exact hb) hq (by have := fuelN_le; have e : [a, b].length = 2 := rfl; rw [e]; omega)
  have h2' : iterN (fun x => lMembers_s24 x.1.1 x.1.2.1 x.1.2.2.1 x.1.2.2.2.1 x.1.2.2.2.2.1 x.1.2.2.2.2.2.1 x.1.2.2.2.2.2.2.1 x.1.2.2.2.2.2.2.2.1 x.2.1 x.2.2.1) fuelN ((a, (b, (U, (M, (D, (N, (([a, b].length : Int), ((0 : Int), ())))))))), ([(0 : Int), (1114111 : Int), (-1 : Int), (1114112 : Int)] ++ c, ([a, b], ()))) = some ((a, (b, (U, (M, (D, (N, ())))))), (g, ())) := h2
  have hgl : g.length ≤ 150000000 := by
    rw [hq4, show [a, b].length = 2 from rfl] at h3; omega
  clear h3 hq hq4
  have h4 := ask_loop U M D N a b ha hb u2 m2 d2 n2 g [] fuelN (by rw [List.length_nil]; omega) (by have := fuelN_le; omega)
  have h4' : iterN (fun x => lMembers_s35 x.1.1 x.1.2.1 x.1.2.2.1 x.1.2.2.2.1 x.1.2.2.2.2.1 x.1.2.2.2.2.2.1 x.1.2.2.2.2.2.2.1 x.1.2.2.2.2.2.2.2.1 x.2.1) fuelN ((a, (b, (U, (M, (D, (N, ((g.length : Int), ((0 : Int), ())))))))), (g, ())) = some (.inr ((), ())) := h4
  have hrm : roomOk ([(0 : Int), (1114111 : Int), (-1 : Int), (1114112 : Int)].length + c.length) 4 = true := roomK (by decide) (by rw [show [(0 : Int), (1114111 : Int), (-1 : Int), (1114112 : Int)].length = 4 from rfl]; omega)
  simp only [lMembers, fixed_is, Option.bind_some, Bool.not_true, cond_false, cond_true, u1, m1, d1, n1, rNorm_eq' a (by omega), h1', hrm, h2', h4']

end Go.Vs.Rs
