/- Texts' lists: one behind the other, each once, the same ones, sorted. -/
import Derived.Test.YthjjbjnfckjohaaGreatVtGu
set_option linter.unusedVariables false
set_option maxRecDepth 100000
namespace Go.Vt.Sg
open Go Go.Vt Go.Vt.Rm Go.Sort Go.Vt.Srt

abbrev Tx := List UInt8
theorem growS_is (n : Nat) (h : n ≤ 100000000) : growS ((n : Nat) : Int) = some ((), ([], ())) := by
  have h0 : ¬ ((n : Nat) : Int) < 0 := by omega
  have e1 : IntKind.i64.wrap ((0 : Int) - 0) = 0 := by decide
  have e2 : IntKind.i64.wrap (((n : Nat) : Int) - 0) = ((n : Nat) : Int) := by rw [wrap64] <;> omega
  by_cases hn : n = 0
  · subst hn; rfl
  · have h1 : ((n : Nat) : Int) > 0 := by omega
    have h2 : inB (0 : Int) (0 : Int) 0 = true := rfl
    have h3 : inB (0 : Int) (0 : Int) (List.replicate (Int.toNat ((n : Nat) : Int)) ([] : List UInt8)).length = true := by simp [inB]
    have h4 : decide (0 ≤ ((n : Nat) : Int)) = true := by simp
    have h5 : roomOk (Int.toNat ((n : Nat) : Int)) 16 = true := roomK (by decide) (by simp; omega)
    simp only [growS, h0, decide_false, cond_false, Option.bind_some, e1, e2, h1, decide_true, cond_true, h2, h3, h4, h5, Bool.and_true]
    rfl

theorem concatS_is (a b : List Tx) (ha : a.length ≤ 10000000) (hb : b.length ≤ 10000000) : concatS [a, b] = some ((), (a ++ b, ())) := by
  obtain ⟨n, hn⟩ : ∃ n, fuelN = n + 3 := ⟨fuelN - 3, by have := fuelN_le; omega⟩
  have w1 : IntKind.i64.wrap ((0 : Int) + (a.length : Int)) = (a.length : Int) := by rw [wrap64] <;> omega
  have w2 : IntKind.i64.wrap ((a.length : Int) + (b.length : Int)) = ((a.length + b.length : Nat) : Int) := by rw [wrap64] <;> omega
  have n1 : ¬ (a.length : Int) < 0 := by omega
  have n2 : ¬ ((a.length + b.length : Nat) : Int) < 0 := by omega
  have i1 : IntKind.i64.wrap ((0 : Int) + 1) = 1 := by decide
  have i2 : IntKind.i64.wrap ((1 : Int) + 1) = 2 := by decide
  have l0 : lk [a, b] (0 : Int) = some a := rfl
  have l1 : lk [a, b] (1 : Int) = some b := rfl
  have hl : (([a, b] : List (List Tx)).length : Int) = 2 := rfl
  have d0 : decide ((0 : Int) < 2) = true := rfl
  have d1 : decide ((1 : Int) < 2) = true := rfl
  have d2 : decide ((2 : Int) < 2) = false := rfl
  have r1 : roomOk (([] : List Tx).length + a.length) 16 = true := roomK (by decide) (by simp; omega)
  have r2 : roomOk (([] ++ a : List Tx).length + b.length) 16 = true := roomK (by decide) (by simp; omega)
  have A : iterN (fun x => concatS_s3 x.1 x.2.1 x.2.2.1 x.2.2.2.1 x.2.2.2.2.1) fuelN ([a, b], ((0 : Int), ([a, b], ((([a, b] : List (List Tx)).length : Int), ((0 : Int), ()))))) = some ([a, b], (((a.length + b.length : Nat) : Int), ())) := by
    rw [hn, hl]
    refine (iterN_inl (y := ([a, b], ((a.length : Int), ([a, b], ((2 : Int), ((1 : Int), ())))))) ?_).trans ?_
    · simp only [concatS_s3, d0, cond_true, l0, Option.bind_some, w1, n1, decide_false, cond_false, i1]
    · refine (iterN_inl (y := ([a, b], (((a.length + b.length : Nat) : Int), ([a, b], ((2 : Int), ((2 : Int), ())))))) ?_).trans ?_
      · simp only [concatS_s3, d1, cond_true, l1, Option.bind_some, w2, n2, decide_false, cond_false, i2]
      · refine iterN_inr ?_
        simp only [concatS_s3, d2, cond_false]
  have B : iterN (fun x => concatS_s10 x.1 x.2.1 x.2.2.1 x.2.2.2.1) fuelN (([] : List Tx), ([a, b], ((([a, b] : List (List Tx)).length : Int), ((0 : Int), ())))) = some (a ++ b, ()) := by
    rw [hn, hl]
    refine (iterN_inl (y := (([] ++ a : List Tx), ([a, b], ((2 : Int), ((1 : Int), ()))))) ?_).trans ?_
    · simp only [concatS_s10, d0, cond_true, l0, Option.bind_some, r1, i1]
    · refine (iterN_inl (y := ((([] ++ a) ++ b : List Tx), ([a, b], ((2 : Int), ((2 : Int), ()))))) ?_).trans ?_
      · simp only [concatS_s10, d1, cond_true, l1, Option.bind_some, r2, i2]
      · refine iterN_inr ?_
        simp only [concatS_s10, d2, cond_false]
        rfl
  simp only [concatS, A, Option.bind_some, growS_is (a.length + b.length) (by omega), B]


/- each once -/
def ddtS (u : Tx) : List Tx → List Tx
  | [] => []
  | r :: l => if r = u then ddtS u l else r :: ddtS r l
def cptS : List Tx → List Tx
  | [] => []
  | x :: l => x :: ddtS x l

theorem ddtS_length : ∀ (l : List Tx) (u : Tx), (ddtS u l).length ≤ l.length
  | [], _ => Nat.le_refl _
  | r :: l, u => by
    simp only [ddtS]
    split
    · have := ddtS_length l u; simp only [List.length_cons]; omega
    · have := ddtS_length l r; simp only [List.length_cons]; omega

theorem lk_idxS {l : List Tx} {i : Nat} {x : Tx} (h : l[i]? = some x) : lk l (i : Int) = some x := by
  unfold lk
  rw [if_pos (by omega)]
  simpa using h

theorem phaseS2 (start L : Nat) : ∀ (rest : List Tx) (u : Tx) (W M : List Tx) (k2 n : Nat), W.length + M.length + 1 + rest.length = start + L → start + k2 = W.length + M.length + 1 → start + L ≤ 200000000 → 0 < k2 → rest.length < n →
    ∃ g, iterN (fun x => compactS_s14 x.1 x.2.1 x.2.2.1 x.2.2.2.1) n (W ++ M ++ u :: rest, (((W.length : Nat) : Int), (((start, L) : Nat × Nat), (((k2 : Nat) : Int), ())))) = some (g, ((((W ++ ddtS u rest).length : Nat) : Int), ())) ∧
      g.take (W ++ ddtS u rest).length = W ++ ddtS u rest ∧ g.length = start + L := by
  intro rest
  induction rest with
  | nil =>
    intro u W M k2 n h1 h2 h3 h0 hn
    obtain ⟨n, rfl⟩ := succ_of hn
    simp only [List.length_nil] at h1
    have hlt : ¬ ((k2 : Nat) : Int) < ((L : Nat) : Int) := by omega
    refine ⟨W ++ M ++ [u], iterN_inr ?_, by simp [ddtS], by simp; omega⟩
    simp only [compactS_s14, hlt, decide_false, cond_false, ddtS, List.append_nil, Option.bind_some]
  | cons r rest ih =>
    intro u W M k2 n h1 h2 h3 h0 hn
    simp only [List.length_cons] at h1 hn
    obtain ⟨n, rfl⟩ := succ_of hn
    have hlt : ((k2 : Nat) : Int) < ((L : Nat) : Int) := by omega
    have i1 : inR ((k2 : Nat) : Int) L = true := by simp only [inR, Bool.and_eq_true, decide_eq_true_eq]; omega
    have w1 : IntKind.i64.wrap (((k2 : Nat) : Int) - 1) = ((k2 - 1 : Nat) : Int) := w_pred' h0 (by omega)
    have i2 : inR ((k2 - 1 : Nat) : Int) L = true := by simp only [inR, Bool.and_eq_true, decide_eq_true_eq]; omega
    have p1 : plusI start ((k2 : Nat) : Int) = ((W.length + M.length + 1 : Nat) : Int) := by simp only [plusI]; omega
    have p2 : plusI start ((k2 - 1 : Nat) : Int) = ((W.length + M.length : Nat) : Int) := by simp only [plusI]; omega
    have l1 : lk (W ++ M ++ u :: r :: rest) ((W.length + M.length + 1 : Nat) : Int) = some r := lk_idxS (by
      rw [List.getElem?_append_right (by simp)]; simp)
    have l2 : lk (W ++ M ++ u :: r :: rest) ((W.length + M.length : Nat) : Int) = some u := lk_idxS (by
      rw [List.getElem?_append_right (by simp)]; simp)
    have w2 : IntKind.i64.wrap (((k2 : Nat) : Int) + 1) = ((k2 + 1 : Nat) : Int) := w_succ (by omega)
    by_cases hc : r = u
    · subst hc
      obtain ⟨g, g1, g2, g3⟩ := ih r W (M ++ [r]) (k2 + 1) n (by simp; omega) (by simp; omega) h3 (by omega) (by omega)
      have e : W ++ (M ++ [r]) ++ r :: rest = W ++ M ++ r :: r :: rest := by simp
      rw [e] at g1
      have hd : ddtS r (r :: rest) = ddtS r rest := by simp [ddtS]
      rw [hd]
      refine ⟨g, (iterN_inl ?_).trans g1, g2, g3⟩
      have hb : (!(r == r)) = false := by simp
      simp only [compactS_s14, hlt, decide_true, cond_true, cond_false, i1, i2, w1, p1, p2, l1, l2, Option.bind_some, hb, w2]
    · have hd : ddtS u (r :: rest) = r :: ddtS r rest := by simp [ddtS, hc]
      rw [hd]
      obtain ⟨h, T, hT⟩ : ∃ h T, M ++ [u] = h :: T := by cases M with | nil => exact ⟨u, [], rfl⟩ | cons m M => exact ⟨m, M ++ [u], rfl⟩
      have hTl : T.length = M.length := by have := congrArg List.length hT; simp at this; omega
      have eg : W ++ M ++ u :: r :: rest = W ++ h :: (T ++ r :: rest) := by
        rw [show W ++ M ++ u :: r :: rest = W ++ ((M ++ [u]) ++ r :: rest) by simp, hT]; simp
      have l3 : lk (W ++ M ++ u :: r :: rest) ((W.length : Nat) : Int) = some h := by rw [eg]; exact lk_mid
      have hset : (W ++ M ++ u :: r :: rest).set ((W.length : Nat) : Int).toNat r = (W ++ [r]) ++ T ++ r :: rest := by
        rw [eg, Int.toNat_natCast, List.set_append_right _ _ (Nat.le_refl _)]; simp
      obtain ⟨g, g1, g2, g3⟩ := ih r (W ++ [r]) T (k2 + 1) n (by simp; omega) (by simp; omega) h3 (by omega) (by omega)
      have e2 : (W ++ [r]) ++ ddtS r rest = W ++ r :: ddtS r rest := by simp
      rw [e2] at g1 g2
      refine ⟨g, (iterN_inl ?_).trans g1, g2, g3⟩
      have hb : (!(r == u)) = true := by simp [hc]
      have w3 : IntKind.i64.wrap (((W.length : Nat) : Int) + 1) = (((W ++ [r]).length : Nat) : Int) := w_mid (by omega)
      simp only [compactS_s14, hlt, decide_true, cond_true, i1, i2, w1, p1, p2, l1, l2, l3, Option.bind_some, hb, w2, w3, hset]

theorem phaseS1 : ∀ (rest : List Tx) (p : Tx) (pre : List Tx) (n : Nat), pre.length + rest.length ≤ 100000000 → rest.length < n →
    ∃ y, iterN (fun x => compactS_s4 x.1 x.2.1) n (pre ++ p :: rest, (((pre.length + 1 : Nat) : Int), ())) = some y ∧
      (y = .inl (pre ++ p :: ddtS p rest, ()) ∨ y = .inr (pre ++ p :: ddtS p rest, ())) := by
  intro rest
  induction rest with
  | nil =>
    intro p pre n h1 hn
    obtain ⟨n, rfl⟩ := succ_of hn
    have hlt : ¬ ((pre.length + 1 : Nat) : Int) < ((pre ++ [p]).length : Int) := by simp
    refine ⟨_, iterN_inr ?_, .inr rfl⟩
    simp only [compactS_s4, hlt, decide_false, cond_false, ddtS, Option.bind_some]
  | cons q rest ih =>
    intro p pre n h1 hn
    simp only [List.length_cons] at h1 hn
    obtain ⟨n, rfl⟩ := succ_of hn
    have hlen : (pre ++ p :: q :: rest).length = pre.length + rest.length + 2 := by simp; omega
    have hlt : ((pre.length + 1 : Nat) : Int) < ((pre ++ p :: q :: rest).length : Int) := by rw [hlen]; omega
    have l1 : lk (pre ++ p :: q :: rest) ((pre.length + 1 : Nat) : Int) = some q := lk_idxS (by rw [List.getElem?_append_right (by omega)]; simp)
    have w1 : IntKind.i64.wrap (((pre.length + 1 : Nat) : Int) - 1) = ((pre.length : Nat) : Int) := w_pred (by omega)
    have l2 : lk (pre ++ p :: q :: rest) ((pre.length : Nat) : Int) = some p := lk_mid
    by_cases hc : q = p
    · subst hc
      have hb : (q == q) = true := by simp
      have hin : inB ((pre.length + 1 : Nat) : Int) ((pre ++ q :: q :: rest).length : Int) (pre ++ q :: q :: rest).length = true := by
        simp only [inB, hlen, Bool.and_eq_true, decide_eq_true_eq]; omega
      have hL : ((((pre ++ q :: q :: rest).length : Nat) : Int) - ((pre.length + 1 : Nat) : Int)).toNat = rest.length + 1 := by rw [hlen]; omega
      obtain ⟨g, g1, g2, g3⟩ := phaseS2 (pre.length + 1) (rest.length + 1) rest q (pre ++ [q]) [] 1 fuelN (by simp; omega) (by simp) (by omega) (by omega) (by have := fuelN_le; omega)
      have eg : (pre ++ [q]) ++ [] ++ q :: rest = pre ++ q :: q :: rest := by simp
      rw [eg] at g1
      have ew : (((pre ++ [q]).length : Nat) : Int) = ((pre.length + 1 : Nat) : Int) := by simp
      rw [ew] at g1
      have hd : ddtS q (q :: rest) = ddtS q rest := by simp [ddtS]
      have er : pre ++ q :: ddtS q (q :: rest) = (pre ++ [q]) ++ ddtS q rest := by rw [hd]; simp
      rw [er]
      generalize hR : (pre ++ [q]) ++ ddtS q rest = R at g1 g2 ⊢
      have hRl : R.length ≤ pre.length + 1 + (rest.length + 1) := by
        rw [← hR]; have := ddtS_length rest q; simp; omega
      have hin2 : inB ((R.length : Nat) : Int) (g.length : Int) g.length = true := by
        simp only [inB, g3, Bool.and_eq_true, decide_eq_true_eq]; omega
      have hRg : R.length ≤ g.length := by omega
      have hcl : (clrL g R.length (g.length - R.length) ([] : List UInt8)).length = g.length := by simp [clrL]; omega
      have hin3 : inB (0 : Int) ((R.length : Nat) : Int) (clrL g R.length (g.length - R.length) ([] : List UInt8)).length = true := by
        rw [hcl]; simp only [inB, Bool.and_eq_true, decide_eq_true_eq]; omega
      have hfin : (((clrL g R.length (g.length - R.length) ([] : List UInt8))).drop (0 : Int).toNat).take (((R.length : Nat) : Int) - 0).toNat = R := by
        have e1 : (((R.length : Nat) : Int) - 0).toNat = R.length := by omega
        rw [e1]
        simp only [Int.toNat_zero, List.drop_zero, clrL]
        rw [List.append_assoc, List.take_append_of_le_length (by simp [g3]; omega), List.take_take, Nat.min_self]
        exact g2
      have hsub : ((((g.length : Nat) : Int)) - ((R.length : Nat) : Int)).toNat = g.length - R.length := by omega
      refine ⟨_, iterN_inr ?_, .inl rfl⟩
      have hone : ((1 : Nat) : Int) = (1 : Int) := rfl
      rw [hone] at g1
      simp only [compactS_s4, hlt, decide_true, cond_true, l1, w1, l2, Option.bind_some, hb, hin, hL, Int.toNat_natCast, g1, hin2, hsub, hin3, hfin]
    · have hb : (q == p) = false := by simp [hc]
      have hd : ddtS p (q :: rest) = q :: ddtS q rest := by simp [ddtS, hc]
      obtain ⟨y, h2, h3⟩ := ih q (pre ++ [p]) n (by simp; omega) (by omega)
      rw [← app_mid] at h2
      have w2 : IntKind.i64.wrap (((pre.length + 1 : Nat) : Int) + 1) = (((pre ++ [p]).length + 1 : Nat) : Int) := by rw [len_succ]; exact w_succ (by omega)
      have e : (pre ++ [p]) ++ q :: ddtS q rest = pre ++ p :: q :: ddtS q rest := by simp
      rw [e] at h3
      rw [hd]
      refine ⟨y, (iterN_inl ?_).trans h2, h3⟩
      simp only [compactS_s4, hlt, decide_true, cond_true, cond_false, l1, w1, l2, Option.bind_some, hb, w2]

theorem compactS_is (l : List Tx) (h : l.length ≤ 100000000) : compactS l = some ((), (cptS l, ())) := by
  cases l with
  | nil => rfl
  | cons x l =>
    cases l with
    | nil => rfl
    | cons y l =>
      simp only [List.length_cons] at h
      have hlt : ¬ (((x :: y :: l).length : Nat) : Int) < 2 := by simp; omega
      obtain ⟨z, h1, h2⟩ := phaseS1 (y :: l) x [] fuelN (by simp; omega) (by have := fuelN_le; simp; omega)
      have h1' : iterN (fun x => compactS_s4 x.1 x.2.1) fuelN (x :: y :: l, ((1 : Int), ())) = some z := h1
      simp only [compactS, hlt, decide_false, cond_false, Option.bind_some, h1']
      rcases h2 with rfl | rfl <;> rfl


/- - slices.Equal -/
theorem slEqualS_loop : ∀ (rest rest' pre pre' : List Tx) (n : Nat), pre.length = pre'.length → rest.length = rest'.length → pre.length + rest.length ≤ 100000000 → rest.length < n →
    iterN (fun x => slEqualS_s4 x.1 x.2.1 x.2.2.1 x.2.2.2.1) n (pre ++ rest, (pre' ++ rest', (((pre ++ rest).length : Int), (((pre.length : Nat) : Int), ())))) =
      some (if rest = rest' then .inr () else .inl (false, ())) := by
  intro rest
  induction rest with
  | nil =>
    intro rest' pre pre' n h1 h2 h3 hn
    obtain ⟨n, rfl⟩ := succ_of hn
    have : rest' = [] := List.length_eq_zero_iff.1 (by simpa using h2.symm)
    subst this
    refine iterN_inr ?_
    simp [slEqualS_s4]
  | cons r rest ih =>
    intro rest' pre pre' n h1 h2 h3 hn
    cases rest' with
    | nil => simp at h2
    | cons r' rest' =>
      simp only [List.length_cons, Nat.add_right_cancel_iff] at h2 h3 hn
      obtain ⟨n, rfl⟩ := succ_of hn
      have hlt : ((pre.length : Nat) : Int) < ((pre ++ r :: rest).length : Int) := lt_mid
      have ew : IntKind.i64.wrap (((pre.length : Nat) : Int) + 1) = (((pre ++ [r]).length : Nat) : Int) := w_mid (by omega)
      have hlk : lk (pre' ++ r' :: rest') ((pre.length : Nat) : Int) = some r' := by rw [h1]; exact lk_mid
      by_cases hc : r = r'
      · subst hc
        have hs := ih rest' (pre ++ [r]) (pre' ++ [r]) n (by simp [h1]) h2 (by simp; omega) (by omega)
        rw [← app_mid, ← app_mid] at hs
        have e : (r :: rest = r :: rest') ↔ rest = rest' := by simp
        simp only [e]
        refine (iterN_inl ?_).trans hs
        have hd : (r == r) = true := by simp
        simp only [slEqualS_s4, hlt, decide_true, cond_true, cond_false, lk_mid, hlk, Option.bind_some, hd, Bool.not_true, ew]
      · have e : ¬ (r :: rest = r' :: rest') := fun h => hc (List.cons.inj h).1
        rw [if_neg e]
        refine iterN_inr ?_
        have hd : (r == r') = false := by simp [hc]
        simp only [slEqualS_s4, hlt, decide_true, cond_true, lk_mid, hlk, Option.bind_some, hd, Bool.not_false]

theorem slEqualS_eq' (a b : List Tx) (h : a.length ≤ 50000000) : slEqualS a b = some ((), (decide (a = b), ())) := by
  by_cases hl : a.length = b.length
  · have h1 := slEqualS_loop a b [] [] fuelN rfl hl (by simp; omega) (by have := fuelN_le; omega)
    have h1' : iterN (fun x => slEqualS_s4 x.1 x.2.1 x.2.2.1 x.2.2.2.1) fuelN (a, (b, ((a.length : Int), ((0 : Int), ())))) = some (if a = b then .inr () else .inl (false, ())) := h1
    have hne : ((a.length : Int) != (b.length : Int)) = false := by simp [hl]
    simp only [slEqualS, hne, cond_false, Option.bind_some, h1']
    by_cases hab : a = b <;> simp [hab]
  · have hne : ((a.length : Int) != (b.length : Int)) = true := by simp; omega
    have hab : a ≠ b := fun e => hl (by rw [e])
    simp only [slEqualS, hne, cond_true, Option.bind_some]
    simp [hab]


/- the order of texts -/
theorem bl_irrefl : ∀ x : Tx, Op.bytesLess x x = false
  | [] => rfl
  | a :: x => by simp [Op.bytesLess, bl_irrefl x]
theorem bl_trans : ∀ x y z : Tx, Op.bytesLess x y = true → Op.bytesLess y z = true → Op.bytesLess x z = true
  | _, _, [], h1, h2 => by cases h2' : (show Tx from ‹Tx›) <;> simp [Op.bytesLess] at h2
  | [], y, c :: z, h1, h2 => by simp [Op.bytesLess]
  | a :: x, [], c :: z, h1, h2 => by simp [Op.bytesLess] at h1
  | a :: x, b :: y, c :: z, h1, h2 => by
    simp only [Op.bytesLess, Bool.or_eq_true, Bool.and_eq_true, decide_eq_true_eq, beq_iff_eq] at h1 h2 ⊢
    rcases h1 with h1 | ⟨rfl, h1⟩
    · rcases h2 with h2 | ⟨rfl, h2⟩
      · exact .inl (UInt8.lt_trans h1 h2)
      · exact .inl h1
    · rcases h2 with h2 | ⟨rfl, h2⟩
      · exact .inl h2
      · exact .inr ⟨rfl, bl_trans x y z h1 h2⟩
theorem bl_total : ∀ x y : Tx, Op.bytesLess x y = false → Op.bytesLess y x = false → x = y
  | [], [], _, _ => rfl
  | [], b :: y, h1, h2 => by simp [Op.bytesLess] at h1
  | a :: x, [], h1, h2 => by simp [Op.bytesLess] at h2
  | a :: x, b :: y, h1, h2 => by
    simp only [Op.bytesLess, Bool.or_eq_false_iff, Bool.and_eq_false_iff, decide_eq_false_iff_not, beq_eq_false_iff_ne, ne_eq] at h1 h2
    have hab : a = b := by
      have h3 := UInt8.not_lt.1 h1.1
      have h4 := UInt8.not_lt.1 h2.1
      exact UInt8.le_antisymm h4 h3
    subst hab
    rw [bl_total x y (h1.2.resolve_left (fun h => h rfl)) (h2.2.resolve_left (fun h => h rfl))]
theorem s_less_is (x y : Tx) : s_less x y = some ((), (Op.bytesLess x y, ())) := rfl
theorem s_swo : SWO Op.bytesLess where
  irrefl x := bl_irrefl x
  trans x y z h1 h2 := bl_trans x y z h1 h2
  ntrans x y z h1 h2 := by
    cases h : Op.bytesLess x z with
    | false => rfl
    | true =>
      cases h3 : Op.bytesLess y x with
      | true => have := bl_trans y x z h3 h; rw [h2] at this; cases this
      | false =>
        have := bl_total x y h1 h3
        subst this
        rw [h2] at h; cases h
/- - rising, each once -/
def Ris (l : List Tx) : Prop := l.Pairwise fun x y => Op.bytesLess x y = true
def Wk (l : List Tx) : Prop := l.Pairwise fun x y => Op.bytesLess y x = false
theorem sortS_spec (l : List Tx) (h : l.length ≤ 100000000) : ∃ s, sortS l = some (s, ()) ∧ s.Perm l ∧ Wk s := by
  refine ⟨_, sortG_tie s_less_is s_swo (fun x y h1 h2 => bl_total x y h1 h2) l (by omega) (l.length + 1) (by omega), List.mergeSort_perm _ _, ?_⟩
  have := List.pairwise_mergeSort (le := fun x y : Tx => !Op.bytesLess y x) (fun a b c h1 h2 => by
    simp only [Bool.not_eq_true'] at h1 h2 ⊢
    exact s_swo.ntrans c b a h2 h1) (fun a b => by
    cases h : Op.bytesLess a b with
    | false => simp
    | true =>
      cases h2 : Op.bytesLess b a with
      | false => simp
      | true => have := bl_trans a b a h h2; rw [bl_irrefl] at this; cases this) l
  exact this.imp (fun h => by simpa using h)
theorem ddtS_spec : ∀ (l : List Tx) (u : Tx), Wk (u :: l) → Ris (u :: ddtS u l) ∧ ∀ y, y ∈ u :: ddtS u l ↔ y ∈ u :: l
  | [], u, _ => by simp [ddtS, Ris]
  | r :: l, u, h => by
    obtain ⟨h1, h2⟩ := List.pairwise_cons.1 h
    simp only [ddtS]
    split
    · rename_i e
      subst e
      obtain ⟨h3, h4⟩ := ddtS_spec l r h2
      refine ⟨h3, fun y => ?_⟩
      rw [h4]; simp
    · rename_i e
      obtain ⟨h3, h4⟩ := ddtS_spec l r h2
      have hur : Op.bytesLess u r = true := by
        cases hb : Op.bytesLess u r with
        | true => rfl
        | false => exact absurd (bl_total u r hb (h1 r (by simp))).symm e
      refine ⟨List.pairwise_cons.2 ⟨fun y hy => ?_, h3⟩, fun y => ?_⟩
      · rcases List.mem_cons.1 hy with rfl | hy
        · exact hur
        · exact bl_trans u r y hur ((List.pairwise_cons.1 h3).1 y hy)
      · rw [List.mem_cons, h4]; exact List.mem_cons.symm
theorem cptS_spec {l : List Tx} (h : Wk l) : Ris (cptS l) ∧ ∀ y, y ∈ cptS l ↔ y ∈ l := by
  cases l with
  | nil => exact ⟨List.Pairwise.nil, fun y => Iff.rfl⟩
  | cons x l => exact ddtS_spec l x h
theorem cptS_length (l : List Tx) : (cptS l).length ≤ l.length := by
  cases l with
  | nil => exact Nat.le_refl _
  | cons x l => have := ddtS_length l x; simp only [cptS, List.length_cons]; omega
/- - a rising list is told by what it has -/
theorem Ris.ext : ∀ {l m : List Tx}, Ris l → Ris m → (∀ y, y ∈ l ↔ y ∈ m) → l = m
  | [], [], _, _, _ => rfl
  | [], b :: m, _, _, h => by have := (h b).2 (by simp); cases this
  | a :: l, [], _, _, h => by have := (h a).1 (by simp); cases this
  | a :: l, b :: m, h1, h2, h => by
    obtain ⟨g1, g2⟩ := List.pairwise_cons.1 h1
    obtain ⟨k1, k2⟩ := List.pairwise_cons.1 h2
    have hab : a = b := by
      rcases List.mem_cons.1 ((h a).1 (by simp)) with e | e
      · exact e
      · rcases List.mem_cons.1 ((h b).2 (by simp)) with e' | e'
        · exact e'.symm
        · have := bl_trans a b a (g1 b e') (k1 a e)
          rw [bl_irrefl] at this; cases this
    subst hab
    have : l = m := Ris.ext g2 k2 fun y => by
      constructor
      · intro hy
        rcases List.mem_cons.1 ((h y).1 (by simp [hy])) with e | e
        · subst e
          have := g1 y hy
          rw [bl_irrefl] at this; cases this
        · exact e
      · intro hy
        rcases List.mem_cons.1 ((h y).2 (by simp [hy])) with e | e
        · subst e
          have := k1 y hy
          rw [bl_irrefl] at this; cases this
        · exact e
    rw [this]

end Go.Vt.Sg

namespace Go.Vt.Sg
open Go Go.Vt Go.Vt.Rm Go.Sort Go.Vt.Srt

abbrev TSet := List (Int × Int) × (List (Int × Int) × List Tx)
/- - a text's code points; whether it is well-formed; its first; whether it may be odd -/
def R (t : Tx) : List Int := runes (u8s t)
def gd (t : Tx) : Bool := s8u (enc (R t)) == t
def hd (t : Tx) : Int := (R t).headD 0
def oddB (t : Tx) : Bool := gd t && decide (1 < (R t).length)

theorem bytes_u8s (t : Tx) : Bytes (u8s t) := fun x hx => by
  obtain ⟨c, _, rfl⟩ := List.mem_map.1 hx
  exact ⟨by omega, by have := c.toNat_lt; omega⟩
theorem u8s_length (t : Tx) : (u8s t).length = t.length := by simp [u8s]
theorem R_length (t : Tx) : (R t).length ≤ t.length := by
  have := runes_length (u8s t)
  rw [u8s_length] at this
  exact this

theorem read_loop (t : Tx) (l0 : List Pt) : ∀ (rest pre : List Pt) (g : List Int) (n : Nat), pre.length + rest.length ≤ 20000000 → g.length + rest.length ≤ 20000000 → rest.length < n →
    iterN (fun x => sRead_s6 x.1 x.2.1 x.2.2.1 x.2.2.2.1 x.2.2.2.2.1 x.2.2.2.2.2.1) n (t, (l0, (g, (pre ++ rest, (((pre ++ rest).length : Int), (((pre.length : Nat) : Int), ())))))) = some (t, (l0, (g ++ rest.map (·.1), ()))) := by
  intro rest
  induction rest with
  | nil =>
    intro pre g n h1 h2 hn
    obtain ⟨n, rfl⟩ := succ_of hn
    refine iterN_inr ?_
    simp [sRead_s6]
  | cons r rest ih =>
    intro pre g n h1 h2 hn
    simp only [List.length_cons] at h1 h2 hn
    obtain ⟨n, rfl⟩ := succ_of hn
    have hlt : ((pre.length : Nat) : Int) < ((pre ++ r :: rest).length : Int) := lt_mid
    have ew : IntKind.i64.wrap (((pre.length : Nat) : Int) + 1) = (((pre ++ [r]).length : Nat) : Int) := w_mid (by omega)
    have hs := ih (pre ++ [r]) (g ++ [r.1]) n (by simp; omega) (by simp; omega) (by omega)
    rw [show (pre ++ [r]) ++ rest = pre ++ r :: rest by simp, show (g ++ [r.1]) ++ rest.map (·.1) = g ++ (r :: rest).map (·.1) by simp] at hs
    have hr : roomOk (g.length + [r.1].length) 4 = true := by simp [roomOk]; omega
    refine (iterN_inl ?_).trans hs
    simp only [sRead_s6, hlt, decide_true, cond_true, lk_mid, Option.bind_some, hr, ew]

theorem sRead_is (t : Tx) (h : t.length ≤ 10000000) : sRead t = some ((), (hd t, (((R t).length : Int), (gd t, ())))) := by
  have hb := bytes_u8s t
  have hl := u8s_length t
  have hd1 := utfDecode_is (u8s t) hb (by omega)
  have hpl := pts_length (u8s t).length (u8s t) 0
  have hR : R t = (pts (u8s t).length (u8s t) 0).map (·.1) := rfl
  have hRl := R_length t
  simp only [sRead, hd1, Option.bind_some]
  unfold gd hd
  cases hp : pts (u8s t).length (u8s t) 0 with
  | nil =>
    rw [hp] at hR
    have ht : t = [] := by
      cases t with
      | nil => rfl
      | cons c t => simp [u8s, pts] at hp
    subst ht
    rw [hR]
    rfl
  | cons p l =>
    rw [hp] at hR hpl
    have h0 : ((((p :: l).length : Nat) : Int) == (0 : Int)) = false := by simp; omega
    have h1 := read_loop t (p :: l) (p :: l) [] [] fuelN (by simp at hpl ⊢; omega) (by simp at hpl ⊢; omega) (by have := fuelN_le; simp at hpl ⊢; omega)
    rw [← hR] at h1
    have h1' : iterN (fun x => sRead_s6 x.1 x.2.1 x.2.2.1 x.2.2.2.1 x.2.2.2.2.1 x.2.2.2.2.2.1) fuelN (t, (p :: l, (([] : List Int), (p :: l, (((p :: l).length : Int), ((0 : Int), ())))))) = some (t, (p :: l, (R t, ()))) := h1
    have hlk : lk (p :: l) (0 : Int) = some p := rfl
    have he := utfEncode_is (R t) (by omega)
    simp only [h0, cond_false, Option.bind_some, h1', hlk, he]
    rw [hR]
    simp

theorem good6_is (t : Tx) (h : t.length ≤ 10000000) : good6 t = some ((), (gd t, ())) := by
  have h1 := runes1_is (u8s t) (bytes_u8s t) (by rw [u8s_length]; exact h)
  have h2 := encode1_is (R t) (by have := R_length t; omega)
  simp only [good6, h1, Option.bind_some]
  have h2' : encode1 (runes (u8s t)) = some ((), (enc (R t), ())) := h2
  simp only [h2', Option.bind_some]
  rfl

/- is a text there? -/
theorem idx_loop (t : Tx) (L : Int) : ∀ (rest pre : List Tx) (n : Nat), pre.length + rest.length ≤ 100000000 → L = ((pre ++ rest).length : Int) → rest.length < n →
    ∃ y, iterN (fun x => indexS_s2 x.1 x.2.1 x.2.2.1 x.2.2.2.1) n (pre ++ rest, (t, (L, (((pre.length : Nat) : Int), ())))) = some y ∧
      ((t ∈ rest ∧ ∃ i : Nat, y = .inl ((i : Int), ())) ∨ (t ∉ rest ∧ y = .inr ())) := by
  intro rest
  induction rest with
  | nil =>
    intro pre n h1 hL hn
    obtain ⟨n, rfl⟩ := succ_of hn
    subst hL
    refine ⟨_, iterN_inr ?_, .inr ⟨by simp, rfl⟩⟩
    simp [indexS_s2]
  | cons r rest ih =>
    intro pre n h1 hL hn
    simp only [List.length_cons] at h1 hn
    obtain ⟨n, rfl⟩ := succ_of hn
    have hlt : ((pre.length : Nat) : Int) < L := by rw [hL]; exact lt_mid
    have ew : IntKind.i64.wrap (((pre.length : Nat) : Int) + 1) = (((pre ++ [r]).length : Nat) : Int) := w_mid (by omega)
    obtain ⟨y, h2, h3⟩ := ih (pre ++ [r]) n (by simp; omega) (by rw [hL]; simp) (by omega)
    rw [← app_mid] at h2
    by_cases hc : t = r
    · subst hc
      refine ⟨_, iterN_inr (y := .inl (((pre.length : Nat) : Int), ())) ?_, .inl ⟨by simp, _, rfl⟩⟩
      simp only [indexS_s2, hlt, decide_true, cond_true, lk_mid, Option.bind_some, beq_self_eq_true]
    · have hb : (t == r) = false := by simp [hc]
      refine ⟨y, (iterN_inl ?_).trans h2, ?_⟩
      · simp only [indexS_s2, hlt, decide_true, cond_true, cond_false, lk_mid, Option.bind_some, hb, ew]
      · rcases h3 with ⟨h3, h4⟩ | ⟨h3, h4⟩
        · exact .inl ⟨by simp [h3], h4⟩
        · exact .inr ⟨by simp [hc, h3], h4⟩
theorem containsS_is (l : List Tx) (t : Tx) (h : l.length ≤ 50000000) : containsS l t = some ((), (decide (t ∈ l), ())) := by
  obtain ⟨y, h1, h2⟩ := idx_loop t (l.length : Int) l [] fuelN (by simp; omega) rfl (by have := fuelN_le; omega)
  have h1' : iterN (fun x => indexS_s2 x.1 x.2.1 x.2.2.1 x.2.2.2.1) fuelN (l, (t, ((l.length : Int), ((0 : Int), ())))) = some y := h1
  rcases h2 with ⟨h2, i, rfl⟩ | ⟨h2, rfl⟩
  · have : (i : Int) ≥ 0 := by omega
    simp only [containsS, indexS, h1', Option.bind_some, h2, this, decide_true]
  · have : ¬ ((-1 : Int) ≥ 0) := by decide
    simp only [containsS, indexS, h1', Option.bind_some, h2, this, decide_false]

/- - whether a set has a text -/
def hasS (s : TSet) (t : Tx) : Bool := match R t with
  | [] => false
  | [r] => hv s.1 r
  | r :: _ :: _ => hv s.2.1 r != decide (t ∈ s.2.2)
def OkS (n : Nat) (s : TSet) : Prop := s.1.length ≤ 2000000 ∧ s.2.1.length ≤ 2000000 ∧ s.2.2.length ≤ n ∧ ∀ t ∈ s.2.2, t.length ≤ 10000000

theorem sHas_is (s : TSet) (t : Tx) (h1 : s.1.length ≤ 2000000) (h2 : s.2.1.length ≤ 2000000) (h3 : s.2.2.length ≤ 50000000) (ht : t.length ≤ 10000000) : sHas s t = some ((), (hasS s t, ())) := by
  simp only [sHas, sRead_is t ht, Option.bind_some]
  unfold hasS hd
  cases hR : R t with
  | nil => rfl
  | cons r l =>
    cases l with
    | nil =>
      have e0 : (((([r] : List Int).length : Nat) : Int) == (0 : Int)) = false := rfl
      have e1 : (((([r] : List Int).length : Nat) : Int) == (1 : Int)) = true := rfl
      simp only [e0, e1, cond_false, cond_true, List.headD_cons, rHas_is s.1 r (by omega), Option.bind_some]
    | cons q l =>
      have e0 : ((((r :: q :: l).length : Nat) : Int) == (0 : Int)) = false := by simp; omega
      have e1 : ((((r :: q :: l).length : Nat) : Int) == (1 : Int)) = false := by simp; omega
      simp only [e0, e1, cond_false, Option.bind_some, List.headD_cons, rHas_is s.2.1 r (by omega), containsS_is s.2.2 t h3]
      rfl

theorem has6_loop (t : Tx) (s : TSet) (b : Bool) : ∀ (rest pre : List Tx) (n : Nat), s.2.2 = pre ++ rest → pre.length + rest.length ≤ 100000000 → rest.length < n →
    iterN (fun x => has6_s13 x.1 x.2.1 x.2.2.1 x.2.2.2.1) n (t, (s, (b, (((pre.length : Nat) : Int), ())))) = some (if t ∈ rest then .inl (!b, ()) else .inr (b, ())) := by
  intro rest
  induction rest with
  | nil =>
    intro pre n hs h1 hn
    obtain ⟨n, rfl⟩ := succ_of hn
    have h0 : ¬ ((pre.length : Nat) : Int) < (s.2.2.length : Int) := by rw [hs]; simp
    refine iterN_inr ?_
    simp only [has6_s13, h0, decide_false, cond_false, Option.bind_some]
    simp
  | cons r rest ih =>
    intro pre n hs h1 hn
    simp only [List.length_cons] at h1 hn
    obtain ⟨n, rfl⟩ := succ_of hn
    have h0 : ((pre.length : Nat) : Int) < (s.2.2.length : Int) := by rw [hs]; simp; omega
    have hlk : lk s.2.2 ((pre.length : Nat) : Int) = some r := by rw [hs]; exact lk_mid
    have ew : IntKind.i64.wrap (((pre.length : Nat) : Int) + 1) = (((pre ++ [r]).length : Nat) : Int) := w_mid (by omega)
    by_cases hc : r = t
    · subst hc
      rw [if_pos (by simp)]
      refine iterN_inr ?_
      simp only [has6_s13, h0, decide_true, cond_true, Option.bind_some, hlk, beq_self_eq_true]
    · have hb : (r == t) = false := by simp [hc]
      have hm : (t ∈ r :: rest) ↔ t ∈ rest := by simp [Ne.symm hc]
      have hs' := ih (pre ++ [r]) n (by rw [hs]; simp) (by simp; omega) (by omega)
      simp only [hm]
      refine (iterN_inl ?_).trans hs'
      simp only [has6_s13, h0, decide_true, cond_true, cond_false, Option.bind_some, hlk, hb, ew]

theorem has6_is (s : TSet) (t : Tx) (h1 : s.1.length ≤ 2000000) (h2 : s.2.1.length ≤ 2000000) (h3 : s.2.2.length ≤ 50000000) (ht : t.length ≤ 10000000) : has6 s t = some ((), (hasS s t, ())) := by
  have hr := runes1_is (u8s t) (bytes_u8s t) (by rw [u8s_length]; exact ht)
  have hr' : runes1 (u8s t) = some ((), (R t, ())) := hr
  simp only [has6, hr', Option.bind_some]
  unfold hasS
  cases hR : R t with
  | nil => rfl
  | cons r l =>
    have hlk : lk (r :: l) (0 : Int) = some r := rfl
    have e0 : ((((r :: l).length : Nat) : Int) == (0 : Int)) = false := by simp; omega
    cases l with
    | nil =>
      have e1 : (((([r] : List Int).length : Nat) : Int) == (1 : Int)) = true := rfl
      simp only [e0, e1, cond_false, cond_true, Option.bind_some, hlk, refHas_is s.1 r (by omega)]
    | cons q l =>
      have e1 : ((((r :: q :: l).length : Nat) : Int) == (1 : Int)) = false := by simp; omega
      have hl := has6_loop t s (hv s.2.1 r) s.2.2 [] fuelN rfl (by simp; omega) (by have := fuelN_le; omega)
      have hl' : iterN (fun x => has6_s13 x.1 x.2.1 x.2.2.1 x.2.2.2.1) fuelN (t, (s, (hv s.2.1 r, ((0 : Int), ())))) = some (if t ∈ s.2.2 then .inl (!hv s.2.1 r, ()) else .inr (hv s.2.1 r, ())) := hl
      simp only [e0, e1, cond_false, Option.bind_some, hlk, refHas_is s.2.1 r (by omega), hl']
      by_cases hm : t ∈ s.2.2
      · simp only [hm, decide_true]
        cases hv s.2.1 r <;> rfl
      · simp only [hm, decide_false]
        cases hv s.2.1 r <;> rfl

/- the odd ones -/
def srt8 (l : List Tx) : List Tx := l.mergeSort fun x y => !Op.bytesLess y x
def oddL (l : List Tx) : List Tx := cptS (srt8 (l.filter oddB))
theorem sortS_is (l : List Tx) (h : l.length ≤ 100000000) : sortS l = some (srt8 l, ()) :=
  sortG_tie s_less_is s_swo (fun x y h1 h2 => bl_total x y h1 h2) l (by omega) (l.length + 1) (by omega)
theorem srt8_ok (l : List Tx) (h : l.length ≤ 100000000) : (srt8 l).Perm l ∧ Wk (srt8 l) := by
  obtain ⟨s, h1, h2, h3⟩ := sortS_spec l h
  rw [sortS_is l h] at h1
  cases h1
  exact ⟨h2, h3⟩
theorem oddL_spec (l : List Tx) (h : l.length ≤ 100000000) : Ris (oddL l) ∧ ∀ t, t ∈ oddL l ↔ t ∈ l ∧ oddB t = true := by
  have hl := List.length_filter_le oddB l
  obtain ⟨h1, h2⟩ := srt8_ok (l.filter oddB) (by omega)
  obtain ⟨h3, h4⟩ := cptS_spec h2
  refine ⟨h3, fun t => ?_⟩
  unfold oddL
  rw [h4, h1.mem_iff, List.mem_filter]
theorem oddL_length (l : List Tx) (h : l.length ≤ 100000000) : (oddL l).length ≤ l.length := by
  have hl := List.length_filter_le oddB l
  obtain ⟨h1, _⟩ := srt8_ok (l.filter oddB) (by omega)
  have := cptS_length (srt8 (l.filter oddB))
  rw [h1.length_eq] at this
  exact Nat.le_trans this hl
/- - what is rising and odd stays -/
theorem oddL_same {l : List Tx} (h : l.length ≤ 100000000) (h1 : Ris l) (h2 : ∀ t ∈ l, oddB t = true) : oddL l = l := by
  obtain ⟨g1, g2⟩ := oddL_spec l h
  exact Ris.ext g1 h1 fun y => by rw [g2]; exact ⟨fun h => h.1, fun h => ⟨h, h2 y h⟩⟩

theorem odd_loop : ∀ (rest pre g : List Tx) (n : Nat), (∀ t ∈ rest, t.length ≤ 10000000) → pre.length + rest.length ≤ 100000000 → g.length + rest.length ≤ 100000000 → rest.length < n →
    iterN (fun x => sOdd_s3 x.1 x.2.1 x.2.2.1 x.2.2.2.1) n (g, (pre ++ rest, (((pre ++ rest).length : Int), (((pre.length : Nat) : Int), ())))) = some (g ++ rest.filter oddB, ()) := by
  intro rest
  induction rest with
  | nil =>
    intro pre g n ht h1 h2 hn
    obtain ⟨n, rfl⟩ := succ_of hn
    refine iterN_inr ?_
    simp [sOdd_s3]
  | cons r rest ih =>
    intro pre g n ht h1 h2 hn
    simp only [List.length_cons] at h1 h2 hn
    obtain ⟨n, rfl⟩ := succ_of hn
    have hlt : ((pre.length : Nat) : Int) < ((pre ++ r :: rest).length : Int) := lt_mid
    have ew : IntKind.i64.wrap (((pre.length : Nat) : Int) + 1) = (((pre ++ [r]).length : Nat) : Int) := w_mid (by omega)
    have hrd := sRead_is r (ht r (by simp))
    have hr : roomOk (g.length + [r].length) 16 = true := by simp [roomOk]; omega
    have hgt : decide ((((R r).length : Nat) : Int) > (1 : Int)) = decide (1 < (R r).length) := by
      by_cases h : 1 < (R r).length
      · rw [decide_eq_true h, decide_eq_true (by omega)]
      · rw [decide_eq_false h, decide_eq_false (by omega)]
    cases ho : oddB r with
    | true =>
      have ho' := ho
      simp only [oddB, Bool.and_eq_true] at ho'
      have hs := ih (pre ++ [r]) (g ++ [r]) n (fun t h => ht t (by simp [h])) (by simp; omega) (by simp; omega) (by omega)
      rw [show (pre ++ [r]) ++ rest = pre ++ r :: rest by simp, show (g ++ [r]) ++ rest.filter oddB = g ++ (r :: rest).filter oddB by simp [ho]] at hs
      refine (iterN_inl ?_).trans hs
      simp only [sOdd_s3, hlt, decide_true, cond_true, lk_mid, Option.bind_some, hrd, ho'.1, hgt, ho'.2, hr, ew]
    | false =>
      have hs := ih (pre ++ [r]) g n (fun t h => ht t (by simp [h])) (by simp; omega) (by omega) (by omega)
      rw [show (pre ++ [r]) ++ rest = pre ++ r :: rest by simp, show rest.filter oddB = (r :: rest).filter oddB by simp [ho]] at hs
      refine (iterN_inl ?_).trans hs
      cases hg : gd r with
      | false => simp only [sOdd_s3, hlt, decide_true, cond_true, cond_false, lk_mid, Option.bind_some, hrd, hg, ew]
      | true =>
        have hn1 : decide (1 < (R r).length) = false := by
          unfold oddB at ho
          rw [hg] at ho
          simpa using ho
        simp only [sOdd_s3, hlt, decide_true, cond_true, cond_false, lk_mid, Option.bind_some, hrd, hg, hgt, hn1, ew]

theorem sOdd_is (l : List Tx) (h : l.length ≤ 50000000) (ht : ∀ t ∈ l, t.length ≤ 10000000) : sOdd l = some ((), (oddL l, ())) := by
  have h1 := odd_loop l [] [] fuelN ht (by simp; omega) (by simp; omega) (by have := fuelN_le; omega)
  have h1' : iterN (fun x => sOdd_s3 x.1 x.2.1 x.2.2.1 x.2.2.2.1) fuelN (([] : List Tx), (l, ((l.length : Int), ((0 : Int), ())))) = some (l.filter oddB, ()) := h1
  have hl := List.length_filter_le oddB l
  have h2 := sortS_is (l.filter oddB) (by omega)
  have hp := (srt8_ok (l.filter oddB) (by omega)).1
  have h3 := compactS_is (srt8 (l.filter oddB)) (by rw [hp.length_eq]; omega)
  simp only [sOdd, h1', Option.bind_some, h2, h3]
  rfl

/- normal sets -/
noncomputable def normS (s : TSet) : TSet := (norm s.1, (norm s.2.1, oddL s.2.2))
theorem sNorm_is (s : TSet) (h1 : s.1.length ≤ 2000000) (h2 : s.2.1.length ≤ 2000000) (h3 : s.2.2.length ≤ 50000000) (ht : ∀ t ∈ s.2.2, t.length ≤ 10000000) : sNorm s = some ((), (normS s, ())) := by
  simp only [sNorm, rNorm_eq' s.1 (by omega), rNorm_eq' s.2.1 (by omega), sOdd_is s.2.2 h3 ht, Option.bind_some]
  rfl
theorem sSame_is (a b : TSet) (h1 : a.1.length ≤ 2000000) (h2 : a.2.1.length ≤ 2000000) (h3 : a.2.2.length ≤ 50000000) : sSame a b = some ((), (decide (a = b), ())) := by
  obtain ⟨a1, a2, a3⟩ := a
  obtain ⟨b1, b2, b3⟩ := b
  simp only at h1 h2 h3
  simp only [sSame, slEqual_eq' a1 b1 (by omega), Option.bind_some]
  by_cases c1 : a1 = b1
  · simp only [c1, decide_true, cond_true, slEqual_eq' a2 b2 (by omega), Option.bind_some]
    by_cases c2 : a2 = b2
    · simp only [c2, decide_true, cond_true, slEqualS_eq' a3 b3 (by omega), Option.bind_some]
      by_cases c3 : a3 = b3 <;> simp [c3]
    · simp [c2]
  · simp [c1]

theorem kU_is (x y : Bool) : kU x y = some ((), (uB x y, ())) := by cases x <;> cases y <;> rfl
theorem kM_is (x y : Bool) : kM x y = some ((), (mB x y, ())) := by cases x <;> cases y <;> rfl
theorem kD_is (x y : Bool) : kD x y = some ((), (dB x y, ())) := by cases x <;> cases y <;> rfl

/- - the texts that are otherwise than the ranges say -/
def othB (f : Bool → Bool → Bool) (x y : TSet) (M : List (Int × Int)) (t : Tx) : Bool := f (hasS x t) (hasS y t) != hv M (hd t)
noncomputable def joinS (f : Bool → Bool → Bool) (a b : TSet) : TSet :=
  (opS f (norm a.1) (norm b.1), (opS f (norm a.2.1) (norm b.2.1), (oddL (oddL a.2.2 ++ oddL b.2.2)).filter (othB f (normS a) (normS b) (opS f (norm a.2.1) (norm b.2.1)))))

theorem norm_len (l : List Rg) : (norm l).length ≤ 1114113 := nrm_len (norm_spec l).1

theorem joinU_loop (x y : TSet) (S M : List (Int × Int)) (hx : x.1.length ≤ 2000000 ∧ x.2.1.length ≤ 2000000 ∧ x.2.2.length ≤ 50000000) (hy : y.1.length ≤ 2000000 ∧ y.2.1.length ≤ 2000000 ∧ y.2.2.length ≤ 50000000) (hM : M.length ≤ 2000000) :
    ∀ (rest pre g : List Tx) (n : Nat), (∀ t ∈ rest, t.length ≤ 10000000) → pre.length + rest.length ≤ 100000000 → g.length + rest.length ≤ 100000000 → rest.length < n →
    iterN (fun x => joinU_s9 x.1 x.2.1 x.2.2.1 x.2.2.2.1 x.2.2.2.2.1 x.2.2.2.2.2.1 x.2.2.2.2.2.2.1) n (x, (y, (((), ((), ())), ((S, (M, g)), (pre ++ rest, (((pre ++ rest).length : Int), (((pre.length : Nat) : Int), ()))))))) =
      some (((), ((), ())), ((S, (M, g ++ rest.filter (othB uB x y M))), ())) := by
  intro rest
  induction rest with
  | nil =>
    intro pre g n ht h1 h2 hn
    obtain ⟨n, rfl⟩ := succ_of hn
    refine iterN_inr ?_
    simp [joinU_s9]
  | cons r rest ih =>
    intro pre g n ht h1 h2 hn
    simp only [List.length_cons] at h1 h2 hn
    obtain ⟨n, rfl⟩ := succ_of hn
    have hlt : ((pre.length : Nat) : Int) < ((pre ++ r :: rest).length : Int) := lt_mid
    have ew : IntKind.i64.wrap (((pre.length : Nat) : Int) + 1) = (((pre ++ [r]).length : Nat) : Int) := w_mid (by omega)
    have hrl := ht r (by simp)
    have hrd := sRead_is r hrl
    have hh1 := sHas_is x r hx.1 hx.2.1 hx.2.2 hrl
    have hh2 := sHas_is y r hy.1 hy.2.1 hy.2.2 hrl
    have hh3 := rHas_is M (hd r) (by omega)
    have hr : roomOk (g.length + [r].length) 16 = true := by simp [roomOk]; omega
    have hb : ∀ u v : Bool, (!(u == v)) = (u != v) := fun u v => rfl
    cases ho : othB uB x y M r with
    | true =>
      have hs := ih (pre ++ [r]) (g ++ [r]) n (fun t h => ht t (by simp [h])) (by simp; omega) (by simp; omega) (by omega)
      rw [show (pre ++ [r]) ++ rest = pre ++ r :: rest by simp, show (g ++ [r]) ++ rest.filter (othB uB x y M) = g ++ (r :: rest).filter (othB uB x y M) by simp [ho]] at hs
      refine (iterN_inl ?_).trans hs
      unfold othB at ho
      simp only [joinU_s9, hlt, decide_true, cond_true, lk_mid, Option.bind_some, hrd, hh1, hh2, hh3, kU_is, hb, ho, hr, ew]
    | false =>
      have hs := ih (pre ++ [r]) g n (fun t h => ht t (by simp [h])) (by simp; omega) (by omega) (by omega)
      rw [show (pre ++ [r]) ++ rest = pre ++ r :: rest by simp, show rest.filter (othB uB x y M) = (r :: rest).filter (othB uB x y M) by simp [ho]] at hs
      refine (iterN_inl ?_).trans hs
      unfold othB at ho
      simp only [joinU_s9, hlt, decide_true, cond_true, cond_false, lk_mid, Option.bind_some, hrd, hh1, hh2, hh3, kU_is, hb, ho, ew]

theorem joinU_is (a b : TSet) (ha : OkS 10000000 a) (hb : OkS 10000000 b) : joinU a b = some ((), (joinS uB a b, ())) := by
  obtain ⟨a1, a2, a3, a4⟩ := ha
  obtain ⟨b1, b2, b3, b4⟩ := hb
  have n1 := norm_len a.1; have n2 := norm_len a.2.1; have n3 := norm_len b.1; have n4 := norm_len b.2.1
  obtain ⟨r1, r2⟩ := rUnion_is (norm a.1) (norm b.1) (by omega) (by omega)
  obtain ⟨r3, r4⟩ := rUnion_is (norm a.2.1) (norm b.2.1) (by omega) (by omega)
  have oa := oddL_length a.2.2 (by omega)
  have ob := oddL_length b.2.2 (by omega)
  obtain ⟨_, sa⟩ := oddL_spec a.2.2 (by omega)
  obtain ⟨_, sb⟩ := oddL_spec b.2.2 (by omega)
  have hc := concatS_is (oddL a.2.2) (oddL b.2.2) (by omega) (by omega)
  have hct : ∀ t ∈ oddL a.2.2 ++ oddL b.2.2, t.length ≤ 10000000 := fun t ht => by
    rcases List.mem_append.1 ht with h | h
    · exact a4 t ((sa t).1 h).1
    · exact b4 t ((sb t).1 h).1
  have ho := sOdd_is (oddL a.2.2 ++ oddL b.2.2) (by simp; omega) hct
  have hol := oddL_length (oddL a.2.2 ++ oddL b.2.2) (by simp; omega)
  obtain ⟨_, so⟩ := oddL_spec (oddL a.2.2 ++ oddL b.2.2) (by simp; omega)
  have hM := nrm_len r4.1
  have hl := joinU_loop (normS a) (normS b) (opS uB (norm a.1) (norm b.1)) (opS uB (norm a.2.1) (norm b.2.1)) ⟨by show (norm a.1).length ≤ _; omega, by show (norm a.2.1).length ≤ _; omega, by show (oddL a.2.2).length ≤ _; omega⟩ ⟨by show (norm b.1).length ≤ _; omega, by show (norm b.2.1).length ≤ _; omega, by show (oddL b.2.2).length ≤ _; omega⟩ (by omega)
    (oddL (oddL a.2.2 ++ oddL b.2.2)) [] [] fuelN (fun t ht => hct t ((so t).1 ht).1) (by simp at hol ⊢; omega) (by simp at hol ⊢; omega) (by have := fuelN_le; simp at hol; omega)
  have hl' : iterN (fun x => joinU_s9 x.1 x.2.1 x.2.2.1 x.2.2.2.1 x.2.2.2.2.1 x.2.2.2.2.2.1 x.2.2.2.2.2.2.1) fuelN (normS a, (normS b, (((), ((), ())), ((opS uB (norm a.1) (norm b.1), (opS uB (norm a.2.1) (norm b.2.1), ([] : List Tx))), (oddL (oddL a.2.2 ++ oddL b.2.2), (((oddL (oddL a.2.2 ++ oddL b.2.2)).length : Int), ((0 : Int), ()))))))) = some (((), ((), ())), (joinS uB a b, ())) := hl
  have e1 : (normS a).1 = norm a.1 := rfl
  have e2 : (normS a).2.1 = norm a.2.1 := rfl
  have e3 : (normS a).2.2 = oddL a.2.2 := rfl
  have e4 : (normS b).1 = norm b.1 := rfl
  have e5 : (normS b).2.1 = norm b.2.1 := rfl
  have e6 : (normS b).2.2 = oddL b.2.2 := rfl
  simp only [joinU, sNorm_is a a1 a2 (by omega) a4, sNorm_is b b1 b2 (by omega) b4, Option.bind_some, e1, e2, e3, e4, e5, e6, r1, r3, hc, ho, hl']

theorem joinM_loop (x y : TSet) (S M : List (Int × Int)) (hx : x.1.length ≤ 2000000 ∧ x.2.1.length ≤ 2000000 ∧ x.2.2.length ≤ 50000000) (hy : y.1.length ≤ 2000000 ∧ y.2.1.length ≤ 2000000 ∧ y.2.2.length ≤ 50000000) (hM : M.length ≤ 2000000) :
    ∀ (rest pre g : List Tx) (n : Nat), (∀ t ∈ rest, t.length ≤ 10000000) → pre.length + rest.length ≤ 100000000 → g.length + rest.length ≤ 100000000 → rest.length < n →
    iterN (fun x => joinM_s9 x.1 x.2.1 x.2.2.1 x.2.2.2.1 x.2.2.2.2.1 x.2.2.2.2.2.1 x.2.2.2.2.2.2.1) n (x, (y, (((), ((), ())), ((S, (M, g)), (pre ++ rest, (((pre ++ rest).length : Int), (((pre.length : Nat) : Int), ()))))))) =
      some (((), ((), ())), ((S, (M, g ++ rest.filter (othB mB x y M))), ())) := by
  intro rest
  induction rest with
  | nil =>
    intro pre g n ht h1 h2 hn
    obtain ⟨n, rfl⟩ := succ_of hn
    refine iterN_inr ?_
    simp [joinM_s9]
  | cons r rest ih =>
    intro pre g n ht h1 h2 hn
    simp only [List.length_cons] at h1 h2 hn
    obtain ⟨n, rfl⟩ := succ_of hn
    have hlt : ((pre.length : Nat) : Int) < ((pre ++ r :: rest).length : Int) := lt_mid
    have ew : IntKind.i64.wrap (((pre.length : Nat) : Int) + 1) = (((pre ++ [r]).length : Nat) : Int) := w_mid (by omega)
    have hrl := ht r (by simp)
    have hrd := sRead_is r hrl
    have hh1 := sHas_is x r hx.1 hx.2.1 hx.2.2 hrl
    have hh2 := sHas_is y r hy.1 hy.2.1 hy.2.2 hrl
    have hh3 := rHas_is M (hd r) (by omega)
    have hr : roomOk (g.length + [r].length) 16 = true := by simp [roomOk]; omega
    have hb : ∀ u v : Bool, (!(u == v)) = (u != v) := fun u v => rfl
    cases ho : othB mB x y M r with
    | true =>
      have hs := ih (pre ++ [r]) (g ++ [r]) n (fun t h => ht t (by simp [h])) (by simp; omega) (by simp; omega) (by omega)
      rw [show (pre ++ [r]) ++ rest = pre ++ r :: rest by simp, show (g ++ [r]) ++ rest.filter (othB mB x y M) = g ++ (r :: rest).filter (othB mB x y M) by simp [ho]] at hs
      refine (iterN_inl ?_).trans hs
      unfold othB at ho
      simp only [joinM_s9, hlt, decide_true, cond_true, lk_mid, Option.bind_some, hrd, hh1, hh2, hh3, kM_is, hb, ho, hr, ew]
    | false =>
      have hs := ih (pre ++ [r]) g n (fun t h => ht t (by simp [h])) (by simp; omega) (by omega) (by omega)
      rw [show (pre ++ [r]) ++ rest = pre ++ r :: rest by simp, show rest.filter (othB mB x y M) = (r :: rest).filter (othB mB x y M) by simp [ho]] at hs
      refine (iterN_inl ?_).trans hs
      unfold othB at ho
      simp only [joinM_s9, hlt, decide_true, cond_true, cond_false, lk_mid, Option.bind_some, hrd, hh1, hh2, hh3, kM_is, hb, ho, ew]

theorem joinM_is (a b : TSet) (ha : OkS 10000000 a) (hb : OkS 10000000 b) : joinM a b = some ((), (joinS mB a b, ())) := by
  obtain ⟨a1, a2, a3, a4⟩ := ha
  obtain ⟨b1, b2, b3, b4⟩ := hb
  have n1 := norm_len a.1; have n2 := norm_len a.2.1; have n3 := norm_len b.1; have n4 := norm_len b.2.1
  obtain ⟨r1, r2⟩ := rMeet_is (norm a.1) (norm b.1) (by omega) (by omega)
  obtain ⟨r3, r4⟩ := rMeet_is (norm a.2.1) (norm b.2.1) (by omega) (by omega)
  have oa := oddL_length a.2.2 (by omega)
  have ob := oddL_length b.2.2 (by omega)
  obtain ⟨_, sa⟩ := oddL_spec a.2.2 (by omega)
  obtain ⟨_, sb⟩ := oddL_spec b.2.2 (by omega)
  have hc := concatS_is (oddL a.2.2) (oddL b.2.2) (by omega) (by omega)
  have hct : ∀ t ∈ oddL a.2.2 ++ oddL b.2.2, t.length ≤ 10000000 := fun t ht => by
    rcases List.mem_append.1 ht with h | h
    · exact a4 t ((sa t).1 h).1
    · exact b4 t ((sb t).1 h).1
  have ho := sOdd_is (oddL a.2.2 ++ oddL b.2.2) (by simp; omega) hct
  have hol := oddL_length (oddL a.2.2 ++ oddL b.2.2) (by simp; omega)
  obtain ⟨_, so⟩ := oddL_spec (oddL a.2.2 ++ oddL b.2.2) (by simp; omega)
  have hM := nrm_len r4.1
  have hl := joinM_loop (normS a) (normS b) (opS mB (norm a.1) (norm b.1)) (opS mB (norm a.2.1) (norm b.2.1)) ⟨by show (norm a.1).length ≤ _; omega, by show (norm a.2.1).length ≤ _; omega, by show (oddL a.2.2).length ≤ _; omega⟩ ⟨by show (norm b.1).length ≤ _; omega, by show (norm b.2.1).length ≤ _; omega, by show (oddL b.2.2).length ≤ _; omega⟩ (by omega)
    (oddL (oddL a.2.2 ++ oddL b.2.2)) [] [] fuelN (fun t ht => hct t ((so t).1 ht).1) (by simp at hol ⊢; omega) (by simp at hol ⊢; omega) (by have := fuelN_le; simp at hol; omega)
  have hl' : iterN (fun x => joinM_s9 x.1 x.2.1 x.2.2.1 x.2.2.2.1 x.2.2.2.2.1 x.2.2.2.2.2.1 x.2.2.2.2.2.2.1) fuelN (normS a, (normS b, (((), ((), ())), ((opS mB (norm a.1) (norm b.1), (opS mB (norm a.2.1) (norm b.2.1), ([] : List Tx))), (oddL (oddL a.2.2 ++ oddL b.2.2), (((oddL (oddL a.2.2 ++ oddL b.2.2)).length : Int), ((0 : Int), ()))))))) = some (((), ((), ())), (joinS mB a b, ())) := hl
  have e1 : (normS a).1 = norm a.1 := rfl
  have e2 : (normS a).2.1 = norm a.2.1 := rfl
  have e3 : (normS a).2.2 = oddL a.2.2 := rfl
  have e4 : (normS b).1 = norm b.1 := rfl
  have e5 : (normS b).2.1 = norm b.2.1 := rfl
  have e6 : (normS b).2.2 = oddL b.2.2 := rfl
  simp only [joinM, sNorm_is a a1 a2 (by omega) a4, sNorm_is b b1 b2 (by omega) b4, Option.bind_some, e1, e2, e3, e4, e5, e6, r1, r3, hc, ho, hl']

theorem joinD_loop (x y : TSet) (S M : List (Int × Int)) (hx : x.1.length ≤ 2000000 ∧ x.2.1.length ≤ 2000000 ∧ x.2.2.length ≤ 50000000) (hy : y.1.length ≤ 2000000 ∧ y.2.1.length ≤ 2000000 ∧ y.2.2.length ≤ 50000000) (hM : M.length ≤ 2000000) :
    ∀ (rest pre g : List Tx) (n : Nat), (∀ t ∈ rest, t.length ≤ 10000000) → pre.length + rest.length ≤ 100000000 → g.length + rest.length ≤ 100000000 → rest.length < n →
    iterN (fun x => joinD_s9 x.1 x.2.1 x.2.2.1 x.2.2.2.1 x.2.2.2.2.1 x.2.2.2.2.2.1 x.2.2.2.2.2.2.1) n (x, (y, (((), ((), ())), ((S, (M, g)), (pre ++ rest, (((pre ++ rest).length : Int), (((pre.length : Nat) : Int), ()))))))) =
      some (((), ((), ())), ((S, (M, g ++ rest.filter (othB dB x y M))), ())) := by
  intro rest
  induction rest with
  | nil =>
    intro pre g n ht h1 h2 hn
    obtain ⟨n, rfl⟩ := succ_of hn
    refine iterN_inr ?_
    simp [joinD_s9]
  | cons r rest ih =>
    intro pre g n ht h1 h2 hn
    simp only [List.length_cons] at h1 h2 hn
    obtain ⟨n, rfl⟩ := succ_of hn
    have hlt : ((pre.length : Nat) : Int) < ((pre ++ r :: rest).length : Int) := lt_mid
    have ew : IntKind.i64.wrap (((pre.length : Nat) : Int) + 1) = (((pre ++ [r]).length : Nat) : Int) := w_mid (by omega)
    have hrl := ht r (by simp)
    have hrd := sRead_is r hrl
    have hh1 := sHas_is x r hx.1 hx.2.1 hx.2.2 hrl
    have hh2 := sHas_is y r hy.1 hy.2.1 hy.2.2 hrl
    have hh3 := rHas_is M (hd r) (by omega)
    have hr : roomOk (g.length + [r].length) 16 = true := by simp [roomOk]; omega
    have hb : ∀ u v : Bool, (!(u == v)) = (u != v) := fun u v => rfl
    cases ho : othB dB x y M r with
    | true =>
      have hs := ih (pre ++ [r]) (g ++ [r]) n (fun t h => ht t (by simp [h])) (by simp; omega) (by simp; omega) (by omega)
      rw [show (pre ++ [r]) ++ rest = pre ++ r :: rest by simp, show (g ++ [r]) ++ rest.filter (othB dB x y M) = g ++ (r :: rest).filter (othB dB x y M) by simp [ho]] at hs
      refine (iterN_inl ?_).trans hs
      unfold othB at ho
      simp only [joinD_s9, hlt, decide_true, cond_true, lk_mid, Option.bind_some, hrd, hh1, hh2, hh3, kD_is, hb, ho, hr, ew]
    | false =>
      have hs := ih (pre ++ [r]) g n (fun t h => ht t (by simp [h])) (by simp; omega) (by omega) (by omega)
      rw [show (pre ++ [r]) ++ rest = pre ++ r :: rest by simp, show rest.filter (othB dB x y M) = (r :: rest).filter (othB dB x y M) by simp [ho]] at hs
      refine (iterN_inl ?_).trans hs
      unfold othB at ho
      simp only [joinD_s9, hlt, decide_true, cond_true, cond_false, lk_mid, Option.bind_some, hrd, hh1, hh2, hh3, kD_is, hb, ho, ew]

theorem joinD_is (a b : TSet) (ha : OkS 10000000 a) (hb : OkS 10000000 b) : joinD a b = some ((), (joinS dB a b, ())) := by
  obtain ⟨a1, a2, a3, a4⟩ := ha
  obtain ⟨b1, b2, b3, b4⟩ := hb
  have n1 := norm_len a.1; have n2 := norm_len a.2.1; have n3 := norm_len b.1; have n4 := norm_len b.2.1
  obtain ⟨r1, r2⟩ := rMinus_is (norm a.1) (norm b.1) (by omega) (by omega)
  obtain ⟨r3, r4⟩ := rMinus_is (norm a.2.1) (norm b.2.1) (by omega) (by omega)
  have oa := oddL_length a.2.2 (by omega)
  have ob := oddL_length b.2.2 (by omega)
  obtain ⟨_, sa⟩ := oddL_spec a.2.2 (by omega)
  obtain ⟨_, sb⟩ := oddL_spec b.2.2 (by omega)
  have hc := concatS_is (oddL a.2.2) (oddL b.2.2) (by omega) (by omega)
  have hct : ∀ t ∈ oddL a.2.2 ++ oddL b.2.2, t.length ≤ 10000000 := fun t ht => by
    rcases List.mem_append.1 ht with h | h
    · exact a4 t ((sa t).1 h).1
    · exact b4 t ((sb t).1 h).1
  have ho := sOdd_is (oddL a.2.2 ++ oddL b.2.2) (by simp; omega) hct
  have hol := oddL_length (oddL a.2.2 ++ oddL b.2.2) (by simp; omega)
  obtain ⟨_, so⟩ := oddL_spec (oddL a.2.2 ++ oddL b.2.2) (by simp; omega)
  have hM := nrm_len r4.1
  have hl := joinD_loop (normS a) (normS b) (opS dB (norm a.1) (norm b.1)) (opS dB (norm a.2.1) (norm b.2.1)) ⟨by show (norm a.1).length ≤ _; omega, by show (norm a.2.1).length ≤ _; omega, by show (oddL a.2.2).length ≤ _; omega⟩ ⟨by show (norm b.1).length ≤ _; omega, by show (norm b.2.1).length ≤ _; omega, by show (oddL b.2.2).length ≤ _; omega⟩ (by omega)
    (oddL (oddL a.2.2 ++ oddL b.2.2)) [] [] fuelN (fun t ht => hct t ((so t).1 ht).1) (by simp at hol ⊢; omega) (by simp at hol ⊢; omega) (by have := fuelN_le; simp at hol; omega)
  have hl' : iterN (fun x => joinD_s9 x.1 x.2.1 x.2.2.1 x.2.2.2.1 x.2.2.2.2.1 x.2.2.2.2.2.1 x.2.2.2.2.2.2.1) fuelN (normS a, (normS b, (((), ((), ())), ((opS dB (norm a.1) (norm b.1), (opS dB (norm a.2.1) (norm b.2.1), ([] : List Tx))), (oddL (oddL a.2.2 ++ oddL b.2.2), (((oddL (oddL a.2.2 ++ oddL b.2.2)).length : Int), ((0 : Int), ()))))))) = some (((), ((), ())), (joinS dB a b, ())) := hl
  have e1 : (normS a).1 = norm a.1 := rfl
  have e2 : (normS a).2.1 = norm a.2.1 := rfl
  have e3 : (normS a).2.2 = oddL a.2.2 := rfl
  have e4 : (normS b).1 = norm b.1 := rfl
  have e5 : (normS b).2.1 = norm b.2.1 := rfl
  have e6 : (normS b).2.2 = oddL b.2.2 := rfl
  simp only [joinD, sNorm_is a a1 a2 (by omega) a4, sNorm_is b b1 b2 (by omega) b4, Option.bind_some, e1, e2, e3, e4, e5, e6, r1, r3, hc, ho, hl']

end Go.Vt.Sg

namespace Go.Vt.Sg
open Go Go.Vt Go.Vt.Rm Go.Sort Go.Vt.Srt

/- - a normal set -/
structure NrS (s : TSet) : Prop where
  one : Nrm s.1
  mul : Nrm s.2.1
  ris : Ris s.2.2
  odd : ∀ t ∈ s.2.2, oddB t = true
  len : s.2.2.length ≤ 100000000

theorem hv_mem {l : List Rg} {x : Int} : hv l x = true ↔ Mem l x := by
  unfold hv
  by_cases h0 : 0 ≤ x
  · by_cases h1 : x ≤ 1114111
    · simp only [h0, h1, decide_true, Bool.true_and]; exact has_mem h0 h1
    · simp only [h0, h1, decide_true, decide_false, Bool.false_and, Bool.and_false, Bool.false_eq_true, false_iff]
      exact fun h => h1 h.2.1
  · simp only [h0, decide_false, Bool.false_and, Bool.false_eq_true, false_iff]
    exact fun h => h0 h.1
theorem hv_norm (l : List Rg) (x : Int) : hv (norm l) x = hv l x := by
  rw [Bool.eq_iff_iff, hv_mem, hv_mem]; exact (norm_spec l).2 x
theorem nrm_ext {l m : List Rg} (h1 : Nrm l) (h2 : Nrm m) (h : ∀ x, hv l x = hv m x) : l = m :=
  unique h1 h2 fun x => by rw [← hv_mem, ← hv_mem, h]
/- - a number that a set may have -/
def inr (x : Int) : Bool := decide (0 ≤ x) && decide (x ≤ 1114111)
theorem hv_inr {l : List Rg} {x : Int} (h : hv l x = true) : inr x = true := by
  have := hv_mem.1 h
  simp only [inr, Bool.and_eq_true, decide_eq_true_eq]
  exact ⟨this.1, this.2.1⟩
theorem hv_op {f : Bool → Bool → Bool} (hf : f false false = false) {a b : List Rg} (h : IsOp f a b (opS f a b)) (x : Int) : hv (opS f a b) x = f (hv a x) (hv b x) := by
  rw [Bool.eq_iff_iff, hv_mem, h.2]
  unfold hv
  by_cases h0 : 0 ≤ x
  · by_cases h1 : x ≤ 1114111
    · simp [h0, h1]
    · simp [h0, h1, hf]
  · simp [h0, hf]

theorem normS_nr (s : TSet) (h : s.2.2.length ≤ 100000000) : NrS (normS s) := by
  obtain ⟨h1, h2⟩ := oddL_spec s.2.2 h
  exact ⟨(norm_spec s.1).1, (norm_spec s.2.1).1, h1, fun t ht => ((h2 t).1 ht).2, Nat.le_trans (oddL_length s.2.2 h) h⟩
theorem normS_same {s : TSet} (h : NrS s) : normS s = s := by
  obtain ⟨s1, s2, s3⟩ := s
  show (norm s1, (norm s2, oddL s3)) = _
  rw [norm_nrm h.one, norm_nrm h.mul, oddL_same h.len h.ris h.odd]

theorem hd_of {t : Tx} {r : Int} {l : List Int} (h : R t = r :: l) : hd t = r := by unfold hd; rw [h]; rfl
theorem odd_two {t : Tx} (h : oddB t = true) : ∃ r q l, R t = r :: q :: l := by
  simp only [oddB, Bool.and_eq_true, decide_eq_true_eq] at h
  match hR : R t, h.2 with
  | [], h => simp at h
  | [_], h => simp at h
  | r :: q :: l, _ => exact ⟨r, q, l, rfl⟩
theorem hasS_odd (s : TSet) {t : Tx} (h : oddB t = true) : hasS s t = (hv s.2.1 (hd t) != decide (t ∈ s.2.2)) := by
  obtain ⟨r, q, l, hR⟩ := odd_two h
  unfold hasS
  rw [hR, hd_of hR]

/- - two normal sets that have the same -/
theorem NrS.ext {x y : TSet} (hx : NrS x) (hy : NrS y) (h1 : ∀ r, hv x.1 r = hv y.1 r) (h2 : ∀ r, hv x.2.1 r = hv y.2.1 r) (h3 : ∀ t, hasS x t = hasS y t) : x = y := by
  obtain ⟨x1, x2, x3⟩ := x
  obtain ⟨y1, y2, y3⟩ := y
  have e1 : x1 = y1 := nrm_ext hx.one hy.one h1
  have e2 : x2 = y2 := nrm_ext hx.mul hy.mul h2
  subst e1 e2
  have e3 : x3 = y3 := by
    refine Ris.ext hx.ris hy.ris fun t => ?_
    have key : oddB t = true → (t ∈ x3 ↔ t ∈ y3) := fun ho => by
      have := h3 t
      rw [hasS_odd _ ho, hasS_odd _ ho] at this
      simp only at this
      by_cases a : t ∈ x3 <;> by_cases b : t ∈ y3 <;> simp [a, b] at this ⊢
    exact ⟨fun h => (key (hx.odd t h)).1 h, fun h => (key (hy.odd t h)).2 h⟩
  rw [e3]

theorem join_nr (f : Bool → Bool → Bool) (a b : TSet) (ha : a.2.2.length ≤ 10000000) (hb : b.2.2.length ≤ 10000000) (h1 : IsOp f (norm a.1) (norm b.1) (opS f (norm a.1) (norm b.1))) (h2 : IsOp f (norm a.2.1) (norm b.2.1) (opS f (norm a.2.1) (norm b.2.1))) :
    NrS (joinS f a b) := by
  have oa := oddL_length a.2.2 (by omega)
  have ob := oddL_length b.2.2 (by omega)
  have hl : (oddL a.2.2 ++ oddL b.2.2).length ≤ 100000000 := by simp; omega
  obtain ⟨g1, g2⟩ := oddL_spec (oddL a.2.2 ++ oddL b.2.2) hl
  have hol := oddL_length (oddL a.2.2 ++ oddL b.2.2) hl
  refine ⟨h1.1, h2.1, List.Pairwise.filter _ g1, fun t ht => ((g2 t).1 (List.mem_filter.1 ht).1).2, ?_⟩
  have := List.length_filter_le (othB f (normS a) (normS b) (opS f (norm a.2.1) (norm b.2.1))) (oddL (oddL a.2.2 ++ oddL b.2.2))
  exact Nat.le_trans this (Nat.le_trans hol hl)
theorem join_len (f : Bool → Bool → Bool) (a b : TSet) (ha : a.2.2.length ≤ 10000000) (hb : b.2.2.length ≤ 10000000) : (joinS f a b).2.2.length ≤ a.2.2.length + b.2.2.length := by
  have oa := oddL_length a.2.2 (by omega)
  have ob := oddL_length b.2.2 (by omega)
  have hol := oddL_length (oddL a.2.2 ++ oddL b.2.2) (by simp; omega)
  have := List.length_filter_le (othB f (normS a) (normS b) (opS f (norm a.2.1) (norm b.2.1))) (oddL (oddL a.2.2 ++ oddL b.2.2))
  simp at hol
  show List.length (List.filter _ _) ≤ _
  omega

theorem join_has {f : Bool → Bool → Bool} (hf : f false false = false) (a b : TSet) (ha : a.2.2.length ≤ 10000000) (hb : b.2.2.length ≤ 10000000) (h1 : IsOp f (norm a.1) (norm b.1) (opS f (norm a.1) (norm b.1))) (h2 : IsOp f (norm a.2.1) (norm b.2.1) (opS f (norm a.2.1) (norm b.2.1))) (t : Tx) :
    hasS (joinS f a b) t = f (hasS (normS a) t) (hasS (normS b) t) := by
  have oa := oddL_length a.2.2 (by omega)
  have ob := oddL_length b.2.2 (by omega)
  obtain ⟨_, sa⟩ := oddL_spec a.2.2 (by omega)
  obtain ⟨_, sb⟩ := oddL_spec b.2.2 (by omega)
  obtain ⟨_, so⟩ := oddL_spec (oddL a.2.2 ++ oddL b.2.2) (by simp; omega)
  cases hR : R t with
  | nil => unfold hasS; rw [hR]; exact hf.symm
  | cons r l =>
    cases l with
    | nil =>
      unfold hasS
      rw [hR]
      exact hv_op hf h1 r
    | cons q l =>
      have hh : hd t = r := hd_of hR
      have ej : hasS (joinS f a b) t = (hv (opS f (norm a.2.1) (norm b.2.1)) r != decide (t ∈ (joinS f a b).2.2)) := by unfold hasS; rw [hR]; rfl
      have ea : hasS (normS a) t = (hv (norm a.2.1) r != decide (t ∈ oddL a.2.2)) := by unfold hasS; rw [hR]; rfl
      have eb : hasS (normS b) t = (hv (norm b.2.1) r != decide (t ∈ oddL b.2.2)) := by unfold hasS; rw [hR]; rfl
      have hm : t ∈ (joinS f a b).2.2 ↔ t ∈ oddL (oddL a.2.2 ++ oddL b.2.2) ∧ othB f (normS a) (normS b) (opS f (norm a.2.1) (norm b.2.1)) t = true := List.mem_filter
      rw [ej]
      by_cases hc : t ∈ oddL (oddL a.2.2 ++ oddL b.2.2)
      · have hd1 : decide (t ∈ (joinS f a b).2.2) = (f (hasS (normS a) t) (hasS (normS b) t) != hv (opS f (norm a.2.1) (norm b.2.1)) r) := by
          rw [Bool.eq_iff_iff, decide_eq_true_eq, hm]
          unfold othB
          rw [hh]
          exact ⟨fun h => h.2, fun h => ⟨hc, h⟩⟩
        rw [hd1]
        cases hv (opS f (norm a.2.1) (norm b.2.1)) r <;> cases f (hasS (normS a) t) (hasS (normS b) t) <;> rfl
      · have hn : t ∉ (joinS f a b).2.2 := fun h => hc (hm.1 h).1
        have na : t ∉ oddL a.2.2 := fun h => hc ((so t).2 ⟨List.mem_append_left _ h, ((sa t).1 h).2⟩)
        have nb : t ∉ oddL b.2.2 := fun h => hc ((so t).2 ⟨List.mem_append_right _ h, ((sb t).1 h).2⟩)
        rw [ea, eb]
        simp only [hn, na, nb, decide_false]
        rw [hv_op hf h2 r]
        simp

theorem join_one {f : Bool → Bool → Bool} (hf : f false false = false) (a b : TSet) (h1 : IsOp f (norm a.1) (norm b.1) (opS f (norm a.1) (norm b.1))) (r : Int) : hv (joinS f a b).1 r = f (hv a.1 r) (hv b.1 r) := by
  show hv (opS f (norm a.1) (norm b.1)) r = _
  rw [hv_op hf h1, hv_norm, hv_norm]
theorem join_mul {f : Bool → Bool → Bool} (hf : f false false = false) (a b : TSet) (h1 : IsOp f (norm a.2.1) (norm b.2.1) (opS f (norm a.2.1) (norm b.2.1))) (r : Int) : hv (joinS f a b).2.1 r = f (hv a.2.1 r) (hv b.2.1 r) := by
  show hv (opS f (norm a.2.1) (norm b.2.1)) r = _
  rw [hv_op hf h1, hv_norm, hv_norm]

theorem opU (a b : List Rg) : IsOp uB (norm a) (norm b) (opS uB (norm a) (norm b)) := (rUnion_is (norm a) (norm b) (by have := norm_len a; omega) (by have := norm_len b; omega)).2
theorem opM (a b : List Rg) : IsOp mB (norm a) (norm b) (opS mB (norm a) (norm b)) := (rMeet_is (norm a) (norm b) (by have := norm_len a; omega) (by have := norm_len b; omega)).2
theorem opD (a b : List Rg) : IsOp dB (norm a) (norm b) (opS dB (norm a) (norm b)) := (rMinus_is (norm a) (norm b) (by have := norm_len a; omega) (by have := norm_len b; omega)).2

/- code points -/
theorem vl_range {c : Int} (hc : Byte c) : ∀ {r : Int} {bs : List (Int × Int)}, bd c = some (r, bs) → ∀ xs, Bytes xs → mt bs xs = bs.length → vld (vl r bs.length xs) = true := by
  intro r bs hbd xs hx hm
  have h0 := hc.1; have h9 := hc.2
  have V : ∀ z : Int, 0 ≤ z → z ≤ 1114111 → (z < 55296 ∨ z > 57343) → vld z = true := fun z a b c => by
    simp only [vld, Bool.and_eq_true, Bool.or_eq_true, decide_eq_true_eq]; exact ⟨a, b, c⟩
  have one : ∀ {lo hi : Int} {b2 : List (Int × Int)} {ys : List Int}, mt ((lo, hi) :: b2) ys = b2.length + 1 → ∃ x zs, ys = x :: zs ∧ lo ≤ x ∧ x ≤ hi ∧ mt b2 zs = b2.length := fun {lo hi b2 ys} h => by
    cases ys with
    | nil => simp [mt] at h
    | cons x zs =>
      simp only [mt] at h
      split at h
      · rename_i hh
        exact ⟨x, zs, rfl, hh.1, hh.2, by omega⟩
      · omega
  by_cases h1 : c < 128
  · simp only [bd, if_pos h1, Option.some.injEq, Prod.mk.injEq] at hbd
    obtain ⟨rfl, rfl⟩ := hbd
    have e : vl c ([] : List (Int × Int)).length xs = c := by cases xs <;> rfl
    rw [e]
    exact V _ (by omega) (by omega) (by omega)
  by_cases h2 : c < 194
  · simp only [bd, if_neg h1, if_pos h2, reduceCtorEq] at hbd
  by_cases h3 : c < 224
  · simp only [bd, if_neg h1, if_neg h2, if_pos h3, Option.some.injEq, Prod.mk.injEq] at hbd
    obtain ⟨rfl, rfl⟩ := hbd
    obtain ⟨x, zs, rfl, g1, g2, _⟩ := one hm
    exact V _ (by simp only [List.length_cons, List.length_nil, vl]; omega) (by simp only [List.length_cons, List.length_nil, vl]; omega) (by simp only [List.length_cons, List.length_nil, vl]; omega)
  by_cases h4 : c < 240
  · simp only [bd, if_neg h1, if_neg h2, if_neg h3, if_pos h4, Option.some.injEq, Prod.mk.injEq] at hbd
    obtain ⟨rfl, rfl⟩ := hbd
    obtain ⟨x, zs, rfl, g1, g2, g3⟩ := one hm
    obtain ⟨y, ws, rfl, k1, k2, _⟩ := one g3
    by_cases e1 : c = 237
    · simp only [e1, if_true] at g2
      exact V _ (by simp only [List.length_cons, List.length_nil, vl]; omega) (by simp only [List.length_cons, List.length_nil, vl]; omega) (by simp only [List.length_cons, List.length_nil, vl]; omega)
    · simp only [e1, if_false] at g2
      have g1' : 128 ≤ x := by split at g1 <;> omega
      exact V _ (by simp only [List.length_cons, List.length_nil, vl]; omega) (by simp only [List.length_cons, List.length_nil, vl]; omega) (by simp only [List.length_cons, List.length_nil, vl]; omega)
  by_cases h5 : c ≤ 244
  · simp only [bd, if_neg h1, if_neg h2, if_neg h3, if_neg h4, if_pos h5, Option.some.injEq, Prod.mk.injEq] at hbd
    obtain ⟨rfl, rfl⟩ := hbd
    obtain ⟨x, zs, rfl, g1, g2, g3⟩ := one hm
    obtain ⟨y, ws, rfl, k1, k2, g4⟩ := one g3
    obtain ⟨u, us, rfl, l1, l2, _⟩ := one g4
    have g1' : 128 ≤ x := by split at g1 <;> omega
    have g1'' : c = 240 → 144 ≤ x := fun e => by rw [if_pos e] at g1; exact g1
    have g2' : c = 244 → x ≤ 143 := fun e => by rw [if_pos e] at g2; exact g2
    have g2'' : x ≤ 191 := by split at g2 <;> omega
    have hcc : c = 240 ∨ c = 244 ∨ (c > 240 ∧ c < 244) := by omega
    refine V _ ?_ ?_ ?_ <;> simp only [List.length_cons, List.length_nil, vl] <;> rcases hcc with e | e | e
    · omega
    · omega
    · omega
    · omega
    · have := g2' e; omega
    · omega
    · have := g1'' e; omega
    · omega
    · omega
  · simp only [bd, if_neg h1, if_neg h2, if_neg h3, if_neg h4, if_neg h5, reduceCtorEq] at hbd

theorem front_vld (c : Int) (xs : List Int) (hb : Bytes (c :: xs)) : vld (front (c :: xs)).1 = true := by
  have hc := hb c (by simp)
  simp only [front]
  cases hbd : bd c with
  | none => exact (by decide : vld 65533 = true)
  | some q =>
    obtain ⟨r, bs⟩ := q
    simp only
    by_cases hm : mt bs xs < bs.length
    · rw [if_pos hm]; exact (by decide : vld 65533 = true)
    · rw [if_neg hm]
      exact vl_range hc hbd xs (fun x hx => hb x (by simp [hx])) (by have := (mt_le bs xs).1; omega)
theorem pts_vld : ∀ (k : Nat) (b : List Int) (a : Int), Bytes b → ∀ p ∈ pts k b a, vld p.1 = true
  | 0, b, a, hb, p, hp => by simp [pts] at hp
  | k + 1, [], a, hb, p, hp => by simp [pts] at hp
  | k + 1, c :: xs, a, hb, p, hp => by
    simp only [pts, List.mem_cons] at hp
    rcases hp with rfl | hp
    · exact front_vld c xs hb
    · exact pts_vld k _ _ (bytes_drop hb _) p hp
theorem R_vld (t : Tx) : ∀ r ∈ R t, vld r = true := fun r hr => by
  obtain ⟨p, hp, rfl⟩ := List.mem_map.1 hr
  exact pts_vld _ _ _ (bytes_u8s t) p hp
theorem vld_inr {r : Int} (h : vld r = true) : inr r = true := by
  simp only [vld, Bool.and_eq_true, decide_eq_true_eq] at h
  simp only [inr, Bool.and_eq_true, decide_eq_true_eq]
  exact ⟨h.1, h.2.1⟩
theorem R_nil {t : Tx} (h : R t = []) : t = [] := by
  cases t with
  | nil => rfl
  | cons c t => simp [R, runes, u8s, pts] at h
theorem good_inj {t t' : Tx} (h : gd t = true) (h' : gd t' = true) (e : R t = R t') : t = t' := by
  simp only [gd, beq_iff_eq] at h h'
  rw [← h, ← h', e]

/- all texts -/
theorem nrm_all : Nrm [((0 : Int), (1114111 : Int))] := by
  refine ⟨by decide, by decide, by decide, trivial⟩
noncomputable def allS : TSet := (norm [((0 : Int), (1114111 : Int))], (norm [((0 : Int), (1114111 : Int))], []))
theorem all_hv (x : Int) : hv (norm [((0 : Int), (1114111 : Int))]) x = inr x := by
  rw [hv_norm]
  unfold hv inr
  simp only [has, List.any_cons, List.any_nil, Bool.or_false]
  cases decide (0 ≤ x) <;> cases decide (x ≤ 1114111) <;> rfl
theorem all_nr : NrS allS := ⟨(norm_spec _).1, (norm_spec _).1, List.Pairwise.nil, fun t h => (by cases h), by simp [allS]⟩
theorem all_has (t : Tx) : hasS allS t = !decide (t = []) := by
  unfold hasS
  cases hR : R t with
  | nil => have := R_nil hR; subst this; rfl
  | cons r l =>
    have ht : t ≠ [] := fun e => by subst e; simp [R, runes, u8s, pts] at hR
    have hr := vld_inr (R_vld t r (by rw [hR]; simp))
    have e := all_hv r
    rw [hr] at e
    cases l with
    | nil => simp only [allS, e]; simp [ht]
    | cons q l => simp only [allS, e]; simp [ht]
theorem has_nil (s : TSet) : hasS s [] = false := rfl

end Go.Vt.Sg

namespace Go.Vt.Sg
open Go Go.Vt Go.Vt.Rm Go.Sort Go.Vt.Srt

theorem sUnion_is (a b : TSet) (ha : OkS 10000000 a) (hb : OkS 10000000 b) : sUnion a b = some ((), (joinS uB a b, ())) := by simp only [sUnion, joinU_is a b ha hb, Option.bind_some]
theorem sMeet_is (a b : TSet) (ha : OkS 10000000 a) (hb : OkS 10000000 b) : sMeet a b = some ((), (joinS mB a b, ())) := by simp only [sMeet, joinM_is a b ha hb, Option.bind_some]
theorem sMinus_is (a b : TSet) (ha : OkS 10000000 a) (hb : OkS 10000000 b) : sMinus a b = some ((), (joinS dB a b, ())) := by simp only [sMinus, joinD_is a b ha hb, Option.bind_some]
theorem sFirst_is (l : List (Int × Int)) (h : l.length ≤ 2000000) : sFirst l = some ((), ((norm l, (norm l, [])), ())) := by
  simp only [sFirst, rNorm_eq' l (by omega), Option.bind_some]
theorem sOnes_is (l : List (Int × Int)) (h : l.length ≤ 2000000) : sOnes l = some ((), ((norm l, ([], [])), ())) := by
  simp only [sOnes, rNorm_eq' l (by omega), Option.bind_some]
theorem sAll_is : sAll = some ((), (allS, ())) := by
  simp only [sAll, sFirst_is [((0 : Int), (1114111 : Int))] (by decide), Option.bind_some]
  rfl
theorem ok_all : OkS 0 allS := ⟨by have := norm_len [((0 : Int), (1114111 : Int))]; show (norm _).length ≤ _; omega, by have := norm_len [((0 : Int), (1114111 : Int))]; show (norm _).length ≤ _; omega, Nat.le_refl _, fun t h => (by cases h)⟩
theorem OkS.mono {n m : Nat} {s : TSet} (h : OkS n s) (hn : n ≤ m) : OkS m s := ⟨h.1, h.2.1, Nat.le_trans h.2.2.1 hn, h.2.2.2⟩
/- - what is not there -/
noncomputable def notS (a : TSet) : TSet := joinS dB allS a
theorem sNot_is (a : TSet) (ha : OkS 10000000 a) : sNot a = some ((), (notS a, ())) := by
  simp only [sNot, sAll_is, Option.bind_some, sMinus_is allS a (ok_all.mono (by omega)) ha]
  rfl
theorem sMay_is (s : TSet) (h : OkS 20000000 s) : sMay s = some ((), (decide (normS s = s), ())) := by
  obtain ⟨h1, h2, h3, h4⟩ := h
  have n1 := norm_len s.1; have n2 := norm_len s.2.1
  have n3 := oddL_length s.2.2 (by omega)
  simp only [sMay, sNorm_is s h1 h2 (by omega) h4, Option.bind_some]
  rw [sSame_is (normS s) s (by show (norm s.1).length ≤ _; omega) (by show (norm s.2.1).length ≤ _; omega) (by show (oddL s.2.2).length ≤ _; omega)]
  rfl
theorem sEqual_is (a b : TSet) (ha : OkS 20000000 a) (hb : OkS 20000000 b) : sEqual a b = some ((), (decide (normS a = normS b), ())) := by
  obtain ⟨h1, h2, h3, h4⟩ := ha
  obtain ⟨k1, k2, k3, k4⟩ := hb
  have n1 := norm_len a.1; have n2 := norm_len a.2.1
  have n3 := oddL_length a.2.2 (by omega)
  simp only [sEqual, sNorm_is a h1 h2 (by omega) h4, sNorm_is b k1 k2 (by omega) k4, Option.bind_some]
  rw [sSame_is (normS a) (normS b) (by show (norm a.1).length ≤ _; omega) (by show (norm a.2.1).length ≤ _; omega) (by show (oddL a.2.2).length ≤ _; omega)]
  rfl
def noS : TSet := ([], ([], []))
theorem ok_no : OkS 0 noS := ⟨by decide, by decide, by decide, fun t h => (by cases h)⟩
theorem no_nr : NrS noS := ⟨trivial, trivial, List.Pairwise.nil, fun t h => (by cases h), by decide⟩
theorem sEmpty_is (a : TSet) (ha : OkS 20000000 a) : sEmpty a = some ((), (decide (normS a = noS), ())) := by
  have e := sEqual_is a noS ha (ok_no.mono (by omega))
  rw [normS_same no_nr] at e
  simp only [sEmpty]
  have e' : sEqual a (([] : List (Int × Int)), (([] : List (Int × Int)), ([] : List (List UInt8)))) = _ := e
  rw [e']
  rfl

theorem ok_norm {n : Nat} {s : TSet} (h : OkS n s) (hn : n ≤ 100000000) : OkS n (normS s) := by
  obtain ⟨h1, h2, h3, h4⟩ := h
  have n1 := norm_len s.1; have n2 := norm_len s.2.1
  have n3 := oddL_length s.2.2 (by omega)
  exact ⟨by show (norm s.1).length ≤ _; omega, by show (norm s.2.1).length ≤ _; omega, by show (oddL s.2.2).length ≤ _; omega, fun t ht => h4 t (((oddL_spec s.2.2 (by omega)).2 t).1 ht).1⟩
theorem ok_join {f : Bool → Bool → Bool} {a b : TSet} {n m : Nat} (ha : OkS n a) (hb : OkS m b) (hn : n ≤ 10000000) (hm : m ≤ 10000000) (h1 : Nrm (joinS f a b).1) (h2 : Nrm (joinS f a b).2.1) : OkS (n + m) (joinS f a b) := by
  obtain ⟨a1, a2, a3, a4⟩ := ha
  obtain ⟨b1, b2, b3, b4⟩ := hb
  have hl := join_len f a b (by omega) (by omega)
  have oa := oddL_length a.2.2 (by omega)
  have ob := oddL_length b.2.2 (by omega)
  refine ⟨by have := nrm_len h1; omega, by have := nrm_len h2; omega, by omega, fun t ht => ?_⟩
  have h3 : t ∈ oddL (oddL a.2.2 ++ oddL b.2.2) := (List.mem_filter.1 ht).1
  have h4 := (((oddL_spec (oddL a.2.2 ++ oddL b.2.2) (by simp; omega)).2 t).1 h3).1
  rcases List.mem_append.1 h4 with h | h
  · exact a4 t (((oddL_spec a.2.2 (by omega)).2 t).1 h).1
  · exact b4 t (((oddL_spec b.2.2 (by omega)).2 t).1 h).1

/- pointwise -/
theorem nrU (a b : TSet) (ha : a.2.2.length ≤ 10000000) (hb : b.2.2.length ≤ 10000000) : NrS (joinS uB a b) := join_nr uB a b ha hb (opU _ _) (opU _ _)
theorem nrM (a b : TSet) (ha : a.2.2.length ≤ 10000000) (hb : b.2.2.length ≤ 10000000) : NrS (joinS mB a b) := join_nr mB a b ha hb (opM _ _) (opM _ _)
theorem nrD (a b : TSet) (ha : a.2.2.length ≤ 10000000) (hb : b.2.2.length ≤ 10000000) : NrS (joinS dB a b) := join_nr dB a b ha hb (opD _ _) (opD _ _)
theorem nrN (a : TSet) (ha : a.2.2.length ≤ 10000000) : NrS (notS a) := nrD allS a (by decide) ha
theorem okU {a b : TSet} {n m : Nat} (ha : OkS n a) (hb : OkS m b) (hn : n ≤ 10000000) (hm : m ≤ 10000000) : OkS (n + m) (joinS uB a b) := ok_join ha hb hn hm (opU _ _).1 (opU _ _).1
theorem okM {a b : TSet} {n m : Nat} (ha : OkS n a) (hb : OkS m b) (hn : n ≤ 10000000) (hm : m ≤ 10000000) : OkS (n + m) (joinS mB a b) := ok_join ha hb hn hm (opM _ _).1 (opM _ _).1
theorem okD {a b : TSet} {n m : Nat} (ha : OkS n a) (hb : OkS m b) (hn : n ≤ 10000000) (hm : m ≤ 10000000) : OkS (n + m) (joinS dB a b) := ok_join ha hb hn hm (opD _ _).1 (opD _ _).1
theorem okN {a : TSet} {n : Nat} (ha : OkS n a) (hn : n ≤ 10000000) : OkS n (notS a) := by
  have := okD ok_all ha (by omega) hn
  rwa [Nat.zero_add] at this

theorem oneU (a b : TSet) (r : Int) : hv (joinS uB a b).1 r = (hv a.1 r || hv b.1 r) := join_one rfl a b (opU _ _) r
theorem oneM (a b : TSet) (r : Int) : hv (joinS mB a b).1 r = (hv a.1 r && hv b.1 r) := join_one rfl a b (opM _ _) r
theorem oneD (a b : TSet) (r : Int) : hv (joinS dB a b).1 r = (hv a.1 r && !hv b.1 r) := join_one rfl a b (opD _ _) r
theorem oneN (a : TSet) (r : Int) : hv (notS a).1 r = (inr r && !hv a.1 r) := by
  have := oneD allS a r
  rw [show hv allS.1 r = inr r from all_hv r] at this
  exact this
theorem mulU (a b : TSet) (r : Int) : hv (joinS uB a b).2.1 r = (hv a.2.1 r || hv b.2.1 r) := join_mul rfl a b (opU _ _) r
theorem mulM (a b : TSet) (r : Int) : hv (joinS mB a b).2.1 r = (hv a.2.1 r && hv b.2.1 r) := join_mul rfl a b (opM _ _) r
theorem mulD (a b : TSet) (r : Int) : hv (joinS dB a b).2.1 r = (hv a.2.1 r && !hv b.2.1 r) := join_mul rfl a b (opD _ _) r
theorem mulN (a : TSet) (r : Int) : hv (notS a).2.1 r = (inr r && !hv a.2.1 r) := by
  have := mulD allS a r
  rw [show hv allS.2.1 r = inr r from all_hv r] at this
  exact this
theorem hasU {a b : TSet} (ha : a.2.2.length ≤ 10000000) (hb : b.2.2.length ≤ 10000000) (t : Tx) : hasS (joinS uB a b) t = (hasS (normS a) t || hasS (normS b) t) := join_has rfl a b ha hb (opU _ _) (opU _ _) t
theorem hasM {a b : TSet} (ha : a.2.2.length ≤ 10000000) (hb : b.2.2.length ≤ 10000000) (t : Tx) : hasS (joinS mB a b) t = (hasS (normS a) t && hasS (normS b) t) := join_has rfl a b ha hb (opM _ _) (opM _ _) t
theorem hasD {a b : TSet} (ha : a.2.2.length ≤ 10000000) (hb : b.2.2.length ≤ 10000000) (t : Tx) : hasS (joinS dB a b) t = (hasS (normS a) t && !hasS (normS b) t) := join_has rfl a b ha hb (opD _ _) (opD _ _) t
theorem hasN {a : TSet} (ha : a.2.2.length ≤ 10000000) (t : Tx) : hasS (notS a) t = ((!decide (t = [])) && !hasS (normS a) t) := by
  have := hasD (a := allS) (b := a) (by decide) ha t
  rw [normS_same all_nr, all_has] at this
  exact this

theorem lenU {a b : TSet} {n m : Nat} (ha : a.2.2.length ≤ n) (hb : b.2.2.length ≤ m) (hn : n ≤ 10000000) (hm : m ≤ 10000000) (f : Bool → Bool → Bool) : (joinS f a b).2.2.length ≤ n + m := by
  have := join_len f a b (by omega) (by omega)
  omega
theorem lenN {a : TSet} {n : Nat} (ha : a.2.2.length ≤ n) (hn : n ≤ 10000000) : (notS a).2.2.length ≤ n := by
  have := lenU (a := allS) (b := a) (n := 0) (by decide) ha (by omega) hn dB
  rwa [Nat.zero_add] at this

/- the laws -/
section
variable {a b c : TSet} (ha : a.2.2.length ≤ 1100000) (hb : b.2.2.length ≤ 1100000) (hc : c.2.2.length ≤ 1100000)
theorem bI {l : List Rg} {r : Int} : (hv l r && inr r) = hv l r := by
  cases h : hv l r with
  | false => rfl
  | true => rw [hv_inr h]; rfl
theorem hI {s : TSet} {t : Tx} : (hasS s t && !decide (t = [])) = hasS s t := by
  by_cases h : t = []
  · subst h; rw [has_nil]; rfl
  · simp [h]
 include ha
theorem alg1 : notS (notS a) = normS a := by
  have l1 := lenN (a := a) ha (by omega)
  refine NrS.ext (nrN _ (by omega)) (normS_nr a (by omega)) (fun r => ?_) (fun r => ?_) fun t => ?_
  · rw [oneN, oneN, show hv (normS a).1 r = hv a.1 r from hv_norm _ _]
    have := bI (l := a.1) (r := r)
    revert this
    cases hv a.1 r <;> cases inr r <;> simp
  · rw [mulN, mulN, show hv (normS a).2.1 r = hv a.2.1 r from hv_norm _ _]
    have := bI (l := a.2.1) (r := r)
    revert this
    cases hv a.2.1 r <;> cases inr r <;> simp
  · rw [hasN (by omega), normS_same (nrN a (by omega)), hasN (by omega)]
    have := hI (s := normS a) (t := t)
    revert this
    cases hasS (normS a) t <;> cases decide (t = []) <;> simp
theorem alg5 : joinS mB a (notS a) = noS := by
  have l1 := lenN (a := a) ha (by omega)
  refine NrS.ext (nrM _ _ (by omega) (by omega)) no_nr (fun r => ?_) (fun r => ?_) fun t => ?_
  · rw [oneM, oneN, show hv noS.1 r = false by simp [hv, noS, has]]
    cases hv a.1 r <;> cases inr r <;> rfl
  · rw [mulM, mulN, show hv noS.2.1 r = false by simp [hv, noS, has]]
    cases hv a.2.1 r <;> cases inr r <;> rfl
  · rw [hasM (by omega) (by omega), normS_same (nrN a (by omega)), hasN (by omega)]
    have e : hasS noS t = false := by
      unfold hasS
      cases R t with
      | nil => rfl
      | cons r l => cases l <;> simp [noS, hv, has]
    rw [e]
    cases hasS (normS a) t <;> cases decide (t = []) <;> rfl
theorem alg6 : joinS uB a (notS a) = allS := by
  have l1 := lenN (a := a) ha (by omega)
  refine NrS.ext (nrU _ _ (by omega) (by omega)) all_nr (fun r => ?_) (fun r => ?_) fun t => ?_
  · rw [oneU, oneN, show hv allS.1 r = inr r from all_hv r]
    have := bI (l := a.1) (r := r)
    revert this
    cases hv a.1 r <;> cases inr r <;> simp
  · rw [mulU, mulN, show hv allS.2.1 r = inr r from all_hv r]
    have := bI (l := a.2.1) (r := r)
    revert this
    cases hv a.2.1 r <;> cases inr r <;> simp
  · rw [hasU (by omega) (by omega), normS_same (nrN a (by omega)), hasN (by omega), all_has]
    have := hI (s := normS a) (t := t)
    revert this
    cases hasS (normS a) t <;> cases decide (t = []) <;> simp
 include hb
theorem alg2 : notS (joinS uB a b) = joinS mB (notS a) (notS b) := by
  have l1 := lenN (a := a) ha (by omega)
  have l2 := lenN (a := b) hb (by omega)
  have l3 := lenU (a := a) (b := b) ha hb (by omega) (by omega) uB
  refine NrS.ext (nrN _ (by omega)) (nrM _ _ (by omega) (by omega)) (fun r => ?_) (fun r => ?_) fun t => ?_
  · rw [oneN, oneU, oneM, oneN, oneN]
    cases hv a.1 r <;> cases hv b.1 r <;> cases inr r <;> rfl
  · rw [mulN, mulU, mulM, mulN, mulN]
    cases hv a.2.1 r <;> cases hv b.2.1 r <;> cases inr r <;> rfl
  · rw [hasN (by omega), normS_same (nrU a b (by omega) (by omega)), hasU (by omega) (by omega), hasM (by omega) (by omega), normS_same (nrN a (by omega)), normS_same (nrN b (by omega)), hasN (by omega), hasN (by omega)]
    cases hasS (normS a) t <;> cases hasS (normS b) t <;> cases decide (t = []) <;> rfl
theorem alg4 : joinS uB a b = joinS uB b a := by
  refine NrS.ext (nrU _ _ (by omega) (by omega)) (nrU _ _ (by omega) (by omega)) (fun r => ?_) (fun r => ?_) fun t => ?_
  · rw [oneU, oneU, Bool.or_comm]
  · rw [mulU, mulU, Bool.or_comm]
  · rw [hasU (by omega) (by omega), hasU (by omega) (by omega), Bool.or_comm]
theorem alg7 : joinS dB a b = joinS dB a (joinS mB a b) := by
  have l3 := lenU (a := a) (b := b) ha hb (by omega) (by omega) mB
  refine NrS.ext (nrD _ _ (by omega) (by omega)) (nrD _ _ (by omega) (by omega)) (fun r => ?_) (fun r => ?_) fun t => ?_
  · rw [oneD, oneD, oneM]
    cases hv a.1 r <;> cases hv b.1 r <;> rfl
  · rw [mulD, mulD, mulM]
    cases hv a.2.1 r <;> cases hv b.2.1 r <;> rfl
  · rw [hasD (by omega) (by omega), hasD (by omega) (by omega), normS_same (nrM a b (by omega) (by omega)), hasM (by omega) (by omega)]
    cases hasS (normS a) t <;> cases hasS (normS b) t <;> rfl
 include hc
theorem alg3 : joinS uB (joinS mB a b) c = joinS mB (joinS uB a c) (joinS uB b c) := by
  have l3 := lenU (a := a) (b := b) ha hb (by omega) (by omega) mB
  have l4 := lenU (a := a) (b := c) ha hc (by omega) (by omega) uB
  have l5 := lenU (a := b) (b := c) hb hc (by omega) (by omega) uB
  refine NrS.ext (nrU _ _ (by omega) (by omega)) (nrM _ _ (by omega) (by omega)) (fun r => ?_) (fun r => ?_) fun t => ?_
  · rw [oneU, oneM, oneM, oneU, oneU]
    cases hv a.1 r <;> cases hv b.1 r <;> cases hv c.1 r <;> rfl
  · rw [mulU, mulM, mulM, mulU, mulU]
    cases hv a.2.1 r <;> cases hv b.2.1 r <;> cases hv c.2.1 r <;> rfl
  · rw [hasU (by omega) (by omega), normS_same (nrM a b (by omega) (by omega)), hasM (by omega) (by omega), hasM (by omega) (by omega), normS_same (nrU a c (by omega) (by omega)), normS_same (nrU b c (by omega) (by omega)), hasU (by omega) (by omega), hasU (by omega) (by omega)]
    cases hasS (normS a) t <;> cases hasS (normS b) t <;> cases hasS (normS c) t <;> rfl
end

end Go.Vt.Sg

namespace Go.Vt.Sg
open Go Go.Vt Go.Vt.Rm Go.Sort Go.Vt.Srt

theorem sameTexts_loop : ∀ (rest rest' pre pre' : List Tx) (n : Nat), pre.length = pre'.length → rest.length = rest'.length → pre.length + rest.length ≤ 100000000 → rest.length < n →
    iterN (fun x => sameTexts_s4 x.1 x.2.1 x.2.2.1) n (pre ++ rest, (pre' ++ rest', (((pre.length : Nat) : Int), ()))) = some (if rest = rest' then .inr () else .inl (false, ())) := by
  intro rest
  induction rest with
  | nil =>
    intro rest' pre pre' n h1 h2 h3 hn
    obtain ⟨n, rfl⟩ := succ_of hn
    have : rest' = [] := List.length_eq_zero_iff.1 (by simpa using h2.symm)
    subst this
    refine iterN_inr ?_
    simp [sameTexts_s4]
  | cons r rest ih =>
    intro rest' pre pre' n h1 h2 h3 hn
    cases rest' with
    | nil => simp at h2
    | cons r' rest' =>
      simp only [List.length_cons, Nat.add_right_cancel_iff] at h2 h3 hn
      obtain ⟨n, rfl⟩ := succ_of hn
      have hlt : ((pre.length : Nat) : Int) < ((pre ++ r :: rest).length : Int) := lt_mid
      have ew : IntKind.i64.wrap (((pre.length : Nat) : Int) + 1) = (((pre ++ [r]).length : Nat) : Int) := w_mid (by omega)
      have hlk : lk (pre' ++ r' :: rest') ((pre.length : Nat) : Int) = some r' := by rw [h1]; exact lk_mid
      by_cases hc : r = r'
      · subst hc
        have hs := ih rest' (pre ++ [r]) (pre' ++ [r]) n (by simp [h1]) h2 (by simp; omega) (by omega)
        rw [← app_mid, ← app_mid] at hs
        have e : (r :: rest = r :: rest') ↔ rest = rest' := by simp
        simp only [e]
        refine (iterN_inl ?_).trans hs
        simp only [sameTexts_s4, hlt, decide_true, cond_true, cond_false, lk_mid, hlk, Option.bind_some, beq_self_eq_true, Bool.not_true, ew]
      · have e : ¬ (r :: rest = r' :: rest') := fun h => hc (List.cons.inj h).1
        rw [if_neg e]
        refine iterN_inr ?_
        have hd : (r == r') = false := by simp [hc]
        simp only [sameTexts_s4, hlt, decide_true, cond_true, lk_mid, hlk, Option.bind_some, hd, Bool.not_false]
theorem sameTexts_is (a b : List Tx) (h : a.length ≤ 50000000) : sameTexts a b = some ((), (decide (a = b), ())) := by
  by_cases hl : a.length = b.length
  · have h1 := sameTexts_loop a b [] [] fuelN rfl hl (by simp; omega) (by have := fuelN_le; omega)
    have h1' : iterN (fun x => sameTexts_s4 x.1 x.2.1 x.2.2.1) fuelN (a, (b, ((0 : Int), ()))) = some (if a = b then .inr () else .inl (false, ())) := h1
    have hne : ((a.length : Int) != (b.length : Int)) = false := by simp [hl]
    simp only [sameTexts, hne, cond_false, Option.bind_some, h1']
    by_cases hab : a = b <;> simp [hab]
  · have hne : ((a.length : Int) != (b.length : Int)) = true := by simp; omega
    have hab : a ≠ b := fun e => hl (by rw [e])
    simp only [sameTexts, hne, cond_true, Option.bind_some]
    simp [hab]
theorem same6_is (a b : TSet) (h1 : a.1.length ≤ 2000000) (h2 : a.2.1.length ≤ 2000000) (h3 : a.2.2.length ≤ 50000000) : same6 a b = some ((), (decide (a = b), ())) := by
  obtain ⟨a1, a2, a3⟩ := a
  obtain ⟨b1, b2, b3⟩ := b
  simp only at h1 h2 h3
  simp only [same6, refSame_is a1 b1 (by omega), Option.bind_some]
  by_cases c1 : a1 = b1
  · simp only [c1, decide_true, cond_true, refSame_is a2 b2 (by omega), Option.bind_some]
    by_cases c2 : a2 = b2
    · simp only [c2, decide_true, cond_true, sameTexts_is a3 b3 (by omega), Option.bind_some]
      by_cases c3 : a3 = b3 <;> simp [c3]
    · simp [c2]
  · simp [c1]

/- the set of one text -/
def ofS (t : Tx) : TSet := if gd t = false then noS else match R t with
  | [] => noS
  | [r] => ([(r, r)], ([], []))
  | _ :: _ :: _ => ([], ([], [t]))
theorem sOf_is (t : Tx) (h : t.length ≤ 10000000) : sOf t = some ((), (ofS t, ())) := by
  simp only [sOf, sRead_is t h, Option.bind_some]
  unfold ofS hd
  cases hR : R t with
  | nil =>
    simp
    rfl
  | cons r l =>
    have e0 : (((r :: l).length : Int) == (0 : Int)) = false := by simp; omega
    cases hg : gd t with
    | false => simp only [e0, cond_false, Option.bind_some, Bool.not_false, cond_true, if_true]; rfl
    | true =>
      cases l with
      | nil => simp only [e0, cond_false, Option.bind_some, Bool.not_true]; rfl
      | cons q l =>
        have e1 : (((r :: q :: l).length : Int) == (1 : Int)) = false := by simp; omega
        simp only [e0, e1, cond_false, Option.bind_some, Bool.not_true]
        rfl
theorem ok_of (t : Tx) (h : t.length ≤ 10000000) : OkS 1 (ofS t) := by
  unfold ofS
  split
  · exact ok_no.mono (by omega)
  · split
    · exact ok_no.mono (by omega)
    · exact ⟨by simp, by simp, by simp, fun t h => (by cases h)⟩
    · exact ⟨by simp, by simp, by simp, fun u hu => by simp only [List.mem_singleton] at hu; subst hu; exact h⟩
theorem of_nr (t : Tx) : NrS (ofS t) := by
  unfold ofS
  split
  · exact no_nr
  · rename_i hg
    split
    · exact no_nr
    · rename_i r hR
      have hr := vld_inr (R_vld t r (by rw [hR]; simp))
      simp only [inr, Bool.and_eq_true, decide_eq_true_eq] at hr
      exact ⟨⟨hr.1, Int.le_refl _, hr.2, trivial⟩, trivial, List.Pairwise.nil, fun t h => (by cases h), by simp⟩
    · rename_i r q l hR
      refine ⟨trivial, trivial, List.pairwise_singleton _ _, fun u hu => ?_, by simp⟩
      simp only [List.mem_singleton] at hu
      subst hu
      unfold oddB
      rw [hR]
      simp at hg
      simp [hg]

theorem hasFst (l : List (Int × Int)) (t : Tx) : hasS (norm l, (norm l, [])) t = (match R t with | [] => false | r :: _ => hv l r) := by
  unfold hasS
  cases R t with
  | nil => rfl
  | cons r m => cases m <;> simp [hv_norm]
theorem hasOns (l : List (Int × Int)) (t : Tx) : hasS (norm l, ([], [])) t = (match R t with | [r] => hv l r | _ => false) := by
  unfold hasS
  cases R t with
  | nil => rfl
  | cons r m =>
    cases m with
    | nil => exact hv_norm l r
    | cons q m => simp [hv, has]
theorem first_nr (l : List (Int × Int)) : NrS (norm l, (norm l, [])) := ⟨(norm_spec l).1, (norm_spec l).1, List.Pairwise.nil, fun t h => (by cases h), by simp⟩
theorem ones_nr (l : List (Int × Int)) : NrS (norm l, ([], [])) := ⟨(norm_spec l).1, trivial, List.Pairwise.nil, fun t h => (by cases h), by simp⟩
theorem ok_first (l : List (Int × Int)) : OkS 0 (norm l, (norm l, [])) := by
  have := norm_len l
  exact ⟨by show (norm l).length ≤ _; omega, by show (norm l).length ≤ _; omega, Nat.le_refl _, fun t h => (by cases h)⟩
theorem ok_ones (l : List (Int × Int)) : OkS 0 (norm l, ([], [])) := by
  have := norm_len l
  exact ⟨by show (norm l).length ≤ _; omega, Nat.zero_le _, Nat.le_refl _, fun t h => (by cases h)⟩

def te : Tx := [101, 204, 129]
theorem te_R : R te = [101, 769] := by kernel_rfl
theorem te_of : ofS te = ([], ([], [te])) := by kernel_rfl

theorem fixed_is : fixed = some ((), (true, ())) := by
  have oe : OkS 1 (ofS te) := ok_of te (by decide)
  have ne : NrS (ofS te) := of_nr te
  have of := ok_first [((97 : Int), (122 : Int))]
  have nf := first_nr [((97 : Int), (122 : Int))]
  have f1 := sOf_is te (by decide)
  have f2 := sFirst_is [((97 : Int), (122 : Int))] (by decide)
  have f3 := sNot_is (ofS te) (oe.mono (by omega))
  generalize hF : ((norm [((97 : Int), (122 : Int))], (norm [((97 : Int), (122 : Int))], [])) : TSet) = F at of nf f2
  have f4 := sMinus_is F (ofS te) (of.mono (by omega)) (oe.mono (by omega))
  have oN := okN oe (by omega)
  have oD := okD of oe (by omega) (by omega)
  have nN := nrN (ofS te) (by have := oe.2.2.1; omega)
  have lF : F.2.2.length ≤ 10000000 := by have := of.2.2.1; omega
  have lE : (ofS te).2.2.length ≤ 10000000 := by have := oe.2.2.1; omega
  have hE : ∀ t, hasS (ofS te) t = (match R t with | _ :: _ :: _ => decide (t = te) | _ => false) := fun t => by
    rw [te_of]
    unfold hasS
    cases R t with
    | nil => rfl
    | cons r m => cases m <;> simp [hv, has]
  have H : ∀ (s : TSet) (n : Nat) (t : Tx), OkS n s → n ≤ 10000000 → t.length ≤ 10 → sHas s t = some ((), (hasS s t, ())) := fun s n t h hn ht => sHas_is s t h.1 h.2.1 (by have := h.2.2.1; omega) (by omega)
  have F5 : hasS F [101, 120] = true := by rw [← hF, hasFst]; kernel_rfl
  have F6 : hasS F [69] = false := by rw [← hF, hasFst]; kernel_rfl
  have F7 : hasS (notS (ofS te)) [101, 204, 130] = true := by rw [hasN lE, normS_same ne, hE]; kernel_rfl
  have F8 : hasS (notS (ofS te)) te = false := by rw [hasN lE, normS_same ne, hE]; kernel_rfl
  have F9 : hasS (joinS dB F (ofS te)) [101] = true := by rw [hasD lF lE, normS_same ne, normS_same nf, hE, ← hF, hasFst]; kernel_rfl
  have F10 : hasS (joinS dB F (ofS te)) te = false := by rw [hasD lF lE, normS_same ne, normS_same nf, hE, ← hF, hasFst]; kernel_rfl
  have f13 := sMay_is (notS (ofS te)) (oN.mono (by omega))
  have f14 := sNot_is (notS (ofS te)) (oN.mono (by omega))
  have oNN := okN oN (by omega)
  have f15 := sEqual_is (notS (notS (ofS te))) (ofS te) (oNN.mono (by omega)) (oe.mono (by omega))
  rw [decide_eq_true (show normS (notS (notS (ofS te))) = normS (ofS te) by rw [alg1 (by have := oe.2.2.1; omega), normS_same ne, normS_same ne])] at f15
  have f16 := sEmpty_is noS (ok_no.mono (by omega))
  have f17 := sEmpty_is (ofS te) (oe.mono (by omega))
  rw [normS_same ne, decide_eq_false (show ofS te ≠ noS by rw [te_of]; intro h; cases h)] at f17
  have f18 := sOnes_is [((97 : Int), (122 : Int))] (by decide)
  have f19 := H _ 0 [97] (ok_ones [((97 : Int), (122 : Int))]) (by omega) (by decide)
  have F19 : hasS (norm [((97 : Int), (122 : Int))], ([], [])) [97] = true := by rw [hasOns]; kernel_rfl
  have lD : (joinS dB F (ofS te)).2.2.length ≤ 10000000 := by have := oD.2.2.1; omega
  have f20 := sUnion_is (ofS te) (joinS dB F (ofS te)) (oe.mono (by omega)) (oD.mono (by omega))
  have oU := okU oe oD (by omega) (by omega)
  have F21 : hasS (joinS uB (ofS te) (joinS dB F (ofS te))) te = true := by
    rw [hasU lE lD, normS_same ne, hE te, te_R]
    simp
  have f22 := sMeet_is F (ofS te) (of.mono (by omega)) (oe.mono (by omega))
  have oM := okM of oe (by omega) (by omega)
  have F23 : hasS (joinS mB F (ofS te)) te = true := by rw [hasM lF lE, normS_same ne, normS_same nf, hE, ← hF, hasFst]; kernel_rfl
  have f24 := sNorm_is (ofS te) oe.1 oe.2.1 (by omega) oe.2.2.2
  rw [normS_same ne] at f24
  have g5 := H _ _ [101, 120] of (by omega) (by decide)
  have g6 := H _ _ [69] of (by omega) (by decide)
  have g7 := H _ _ [101, 204, 130] oN (by omega) (by decide)
  have g8 := H _ _ te oN (by omega) (by decide)
  have g9 := H _ _ [101] oD (by omega) (by decide)
  have g10 := H _ _ te oD (by omega) (by decide)
  have g12 := H _ _ [] ok_all (by omega) (by decide)
  have g21 := H _ _ te oU (by omega) (by decide)
  have g23 := H _ _ te oM (by omega) (by decide)
  rw [F5] at g5; rw [F6] at g6; rw [F7] at g7; rw [F8] at g8; rw [F9] at g9; rw [F10] at g10; rw [has_nil] at g12; rw [F21] at g21; rw [F23] at g23
  rw [normS_same nN] at f13
  rw [F19] at f19
  have hlen : (((ofS te).2.2.length : Int) == (1 : Int)) = true := by rw [te_of]; rfl
  have f1' : sOf ([101, 204, 129] : List UInt8) = _ := f1
  have f16' : sEmpty (([] : List (Int × Int)), (([] : List (Int × Int)), ([] : List (List UInt8)))) = _ := f16
  have g8' : sHas (notS (ofS te)) ([101, 204, 129] : List UInt8) = _ := g8
  have g10' : sHas (joinS dB F (ofS te)) ([101, 204, 129] : List UInt8) = _ := g10
  have g21' : sHas (joinS uB (ofS te) (joinS dB F (ofS te))) ([101, 204, 129] : List UInt8) = _ := g21
  have g23' : sHas (joinS mB F (ofS te)) ([101, 204, 129] : List UInt8) = _ := g23
  simp only [fixed, f1', f2, f3, f4, Option.bind_some, hlen, cond_true, g5, g6, Bool.not_false, g7, g8', g9, g10', sAll_is, g12, f13, decide_true, f14, f15, f16', normS_same no_nr, f17, f18, f19, f20, g21', f22, g23', f24]

/- - SEGSETALGEBRA -/
theorem lAlgebra_is (a b c : TSet) (ha : OkS 1100000 a) (hb : OkS 1100000 b) (hc : OkS 1100000 c) : lAlgebra a b c = some ((), (true, ())) := by
  have la := ha.2.2.1; have lb := hb.2.2.1; have lc := hc.2.2.1
  have Na := okN ha (by omega)
  have Nb := okN hb (by omega)
  have NNa := okN Na (by omega)
  have U := okU ha hb (by omega) (by omega)
  have M := okM ha hb (by omega) (by omega)
  have NU := okN U (by omega)
  have MN := okM Na Nb (by omega) (by omega)
  have UMc := okU M hc (by omega) (by omega)
  have Uac := okU ha hc (by omega) (by omega)
  have Ubc := okU hb hc (by omega) (by omega)
  have MU := okM Uac Ubc (by omega) (by omega)
  have Uba := okU hb ha (by omega) (by omega)
  have MaN := okM ha Na (by omega) (by omega)
  have UaN := okU ha Na (by omega) (by omega)
  have Dab := okD ha hb (by omega) (by omega)
  have DaM := okD ha M (by omega) (by omega)
  have h1 := sUnion_is a b (ha.mono (by omega)) (hb.mono (by omega))
  have h2 := sMeet_is a b (ha.mono (by omega)) (hb.mono (by omega))
  have h3 := sNot_is a (ha.mono (by omega))
  have h4 := sNot_is (notS a) (Na.mono (by omega))
  have h5 := sNorm_is a ha.1 ha.2.1 (by omega) ha.2.2.2
  have h6 := same6_is (notS (notS a)) (normS a) NNa.1 NNa.2.1 (by have := NNa.2.2.1; omega)
  rw [decide_eq_true (alg1 la)] at h6
  have h7 := sNot_is (joinS uB a b) (U.mono (by omega))
  have h8 := sNot_is b (hb.mono (by omega))
  have h9 := sMeet_is (notS a) (notS b) (Na.mono (by omega)) (Nb.mono (by omega))
  have h10 := sEqual_is (notS (joinS uB a b)) (joinS mB (notS a) (notS b)) (NU.mono (by omega)) (MN.mono (by omega))
  rw [decide_eq_true (by rw [alg2 la lb])] at h10
  have h11 := sUnion_is (joinS mB a b) c (M.mono (by omega)) (hc.mono (by omega))
  have h12 := sUnion_is a c (ha.mono (by omega)) (hc.mono (by omega))
  have h13 := sUnion_is b c (hb.mono (by omega)) (hc.mono (by omega))
  have h14 := sMeet_is (joinS uB a c) (joinS uB b c) (Uac.mono (by omega)) (Ubc.mono (by omega))
  have h15 := sEqual_is (joinS uB (joinS mB a b) c) (joinS mB (joinS uB a c) (joinS uB b c)) (UMc.mono (by omega)) (MU.mono (by omega))
  rw [decide_eq_true (by rw [alg3 la lb lc])] at h15
  have h16 := sUnion_is b a (hb.mono (by omega)) (ha.mono (by omega))
  have h17 := sEqual_is (joinS uB a b) (joinS uB b a) (U.mono (by omega)) (Uba.mono (by omega))
  rw [decide_eq_true (by rw [alg4 la lb])] at h17
  have h18 := sMeet_is a (notS a) (ha.mono (by omega)) (Na.mono (by omega))
  have h19 := sEmpty_is (joinS mB a (notS a)) (MaN.mono (by omega))
  rw [decide_eq_true (by rw [alg5 la, normS_same no_nr])] at h19
  have h20 := sUnion_is a (notS a) (ha.mono (by omega)) (Na.mono (by omega))
  have h21 := sEqual_is (joinS uB a (notS a)) allS (UaN.mono (by omega)) (ok_all.mono (by omega))
  rw [decide_eq_true (by rw [alg6 la])] at h21
  have h22 := sMinus_is a b (ha.mono (by omega)) (hb.mono (by omega))
  have h23 := sMinus_is a (joinS mB a b) (ha.mono (by omega)) (M.mono (by omega))
  have h24 := sEqual_is (joinS dB a b) (joinS dB a (joinS mB a b)) (Dab.mono (by omega)) (DaM.mono (by omega))
  rw [decide_eq_true (by rw [← alg7 la lb])] at h24
  simp only [lAlgebra, fixed_is, Option.bind_some, Bool.not_true, cond_false, h1, h2, h3, h4, h5, h6, cond_true, h7, h8, h9, h10, h11, h12, h13, h14, h15, h16, h17, h18, h19, h20, sAll_is, h21, h22, h23, h24]

end Go.Vt.Sg

namespace Go.Vt.Sg
open Go Go.Vt Go.Vt.Rm Go.Sort Go.Vt.Srt

theorem mem_loop (x y U M W N : TSet)
    (hx : ∀ t : Tx, t.length ≤ 10000000 → sHas x t = some ((), (hasS x t, ()))) (hy : ∀ t : Tx, t.length ≤ 10000000 → sHas y t = some ((), (hasS y t, ())))
    (h6 : ∀ t : Tx, t.length ≤ 10000000 → has6 x t = some ((), (hasS x t, ())))
    (hU : ∀ t : Tx, t.length ≤ 10000000 → sHas U t = some ((), (hasS x t || hasS y t, ()))) (hM : ∀ t : Tx, t.length ≤ 10000000 → sHas M t = some ((), (hasS x t && hasS y t, ())))
    (hW : ∀ t : Tx, t.length ≤ 10000000 → sHas W t = some ((), (hasS x t && !hasS y t, ()))) (hN : ∀ t : Tx, t.length ≤ 10000000 → sHas N t = some ((), ((!(t == [])) && !hasS x t, ()))) :
    ∀ (rest pre : List Tx) (n : Nat), (∀ t ∈ rest, t.length ≤ 10000000) → pre.length + rest.length ≤ 100000000 → rest.length < n →
    iterN (fun x => lMembers_s18 x.1 x.2.1 x.2.2.1 x.2.2.2.1 x.2.2.2.2.1 x.2.2.2.2.2.1 x.2.2.2.2.2.2.1 x.2.2.2.2.2.2.2.1 x.2.2.2.2.2.2.2.2.1) n (x, (y, (U, (M, (W, (N, (pre ++ rest, (((pre ++ rest).length : Int), (((pre.length : Nat) : Int), ()))))))))) = some (.inr ()) := by
  intro rest
  induction rest with
  | nil =>
    intro pre n ht h1 hn
    obtain ⟨n, rfl⟩ := succ_of hn
    refine iterN_inr ?_
    simp [lMembers_s18]
  | cons r rest ih =>
    intro pre n ht h1 hn
    simp only [List.length_cons] at h1 hn
    obtain ⟨n, rfl⟩ := succ_of hn
    have hlt : ((pre.length : Nat) : Int) < ((pre ++ r :: rest).length : Int) := lt_mid
    have ew : IntKind.i64.wrap (((pre.length : Nat) : Int) + 1) = (((pre ++ [r]).length : Nat) : Int) := w_mid (by omega)
    have hrl := ht r (by simp)
    have hs := ih (pre ++ [r]) n (fun t h => ht t (by simp [h])) (by simp; omega) (by omega)
    rw [show (pre ++ [r]) ++ rest = pre ++ r :: rest by simp] at hs
    refine (iterN_inl ?_).trans hs
    have e1 := hx r hrl; have e2 := hy r hrl; have e3 := h6 r hrl; have e4 := hU r hrl; have e5 := hM r hrl; have e6 := hW r hrl; have e7 := hN r hrl
    have e8 := good6_is r hrl
    have c1 : (true == true) = true := rfl
    have c2 : (false == false) = true := rfl
    cases hg : gd r with
    | false =>
      rw [hg] at e8
      simp only [lMembers_s18, hlt, decide_true, cond_true, lk_mid, Option.bind_some, e1, e2, e8, Bool.not_false, ew]
    | true =>
      rw [hg] at e8
      cases hA : hasS x r <;> cases hB : hasS y r <;> rw [hA] at e1 e3 e4 e5 e6 e7 <;> rw [hB] at e2 e4 e5 e6 <;> cases hT : (r == ([] : Tx)) <;> rw [hT] at e7 <;>
        simp only [lMembers_s18, hlt, decide_true, cond_true, cond_false, lk_mid, Option.bind_some, e1, e2, e3, e4, e5, e6, e7, e8, hT, Bool.not_true, Bool.not_false, Bool.or_false, Bool.or_true, Bool.and_false, Bool.and_true, c1, c2, ew]

theorem room16 {n : Nat} (h : n ≤ 100000000) : roomOk n 16 = true := by simp [roomOk]; omega

/- - SEGSETMEMBERS -/
theorem lMembers_is (a b : TSet) (l : List Tx) (ha : OkS 1100000 a) (hb : OkS 1100000 b) (hl : l.length ≤ 1100000) (ht : ∀ t ∈ l, t.length ≤ 10000000) : lMembers a b l = some ((), (true, ())) := by
  have la := ha.2.2.1; have lb := hb.2.2.1
  have xa := ok_norm ha (by omega)
  have xb := ok_norm hb (by omega)
  have Na := okN ha (by omega)
  have U := okU ha hb (by omega) (by omega)
  have M := okM ha hb (by omega) (by omega)
  have D := okD ha hb (by omega) (by omega)
  have h1 := sNorm_is a ha.1 ha.2.1 (by omega) ha.2.2.2
  have h2 := sNorm_is b hb.1 hb.2.1 (by omega) hb.2.2.2
  have h3 := sUnion_is a b (ha.mono (by omega)) (hb.mono (by omega))
  have h4 := sMeet_is a b (ha.mono (by omega)) (hb.mono (by omega))
  have h5 := sMinus_is a b (ha.mono (by omega)) (hb.mono (by omega))
  have h6 := sNot_is a (ha.mono (by omega))
  have k1 := sMay_is _ (U.mono (show 1100000 + 1100000 ≤ 20000000 by omega))
  have k2 := sMay_is _ (M.mono (show 1100000 + 1100000 ≤ 20000000 by omega))
  have k3 := sMay_is _ (D.mono (show 1100000 + 1100000 ≤ 20000000 by omega))
  have k4 := sMay_is _ (Na.mono (show 1100000 ≤ 20000000 by omega))
  rw [decide_eq_true (normS_same (nrU a b (by omega) (by omega)))] at k1
  rw [decide_eq_true (normS_same (nrM a b (by omega) (by omega)))] at k2
  rw [decide_eq_true (normS_same (nrD a b (by omega) (by omega)))] at k3
  rw [decide_eq_true (normS_same (nrN a (by omega)))] at k4
  have H : ∀ (s : TSet) (n : Nat) (t : Tx), OkS n s → n ≤ 10000000 → t.length ≤ 10000000 → sHas s t = some ((), (hasS s t, ())) := fun s n t h hn ht => sHas_is s t h.1 h.2.1 (by have := h.2.2.1; omega) ht
  have xl := xa.2.2.1; have yl := xb.2.2.1
  have hd : ∀ t : Tx, decide (t = []) = (t == ([] : Tx)) := fun t => by cases t <;> rfl
  have hloop := mem_loop (normS a) (normS b) (joinS uB a b) (joinS mB a b) (joinS dB a b) (notS a)
    (fun t h => H _ _ t xa (by omega) h) (fun t h => H _ _ t xb (by omega) h)
    (fun t h => has6_is (normS a) t xa.1 xa.2.1 (by omega) h)
    (fun t h => by rw [← hasU (by omega) (by omega)]; exact H _ _ t U (by omega) h)
    (fun t h => by rw [← hasM (by omega) (by omega)]; exact H _ _ t M (by omega) h)
    (fun t h => by rw [← hasD (by omega) (by omega)]; exact H _ _ t D (by omega) h)
    (fun t h => by rw [← hd, ← hasN (by omega)]; exact H _ _ t Na (by omega) h)
    (l ++ (normS a).2.2 ++ (normS b).2.2) [] fuelN (fun t h => by
      rcases List.mem_append.1 h with h | h
      · rcases List.mem_append.1 h with h | h
        · exact ht t h
        · exact xa.2.2.2 t h
      · exact xb.2.2.2 t h) (by simp; omega) (by have := fuelN_le; simp; omega)
  have r1 : roomOk (([] : List Tx).length + l.length) 16 = true := room16 (by simp; omega)
  have r2 : roomOk ((([] : List Tx) ++ l).length + (normS a).2.2.length) 16 = true := room16 (by simp; omega)
  have r3 : roomOk (((([] : List Tx) ++ l) ++ (normS a).2.2).length + (normS b).2.2.length) 16 = true := room16 (by simp; omega)
  have hloop' : iterN (fun x => lMembers_s18 x.1 x.2.1 x.2.2.1 x.2.2.2.1 x.2.2.2.2.1 x.2.2.2.2.2.1 x.2.2.2.2.2.2.1 x.2.2.2.2.2.2.2.1 x.2.2.2.2.2.2.2.2.1) fuelN (normS a, (normS b, (joinS uB a b, (joinS mB a b, (joinS dB a b, (notS a, (((([] : List Tx) ++ l) ++ (normS a).2.2) ++ (normS b).2.2, ((((([] : List Tx) ++ l) ++ (normS a).2.2) ++ (normS b).2.2).length, ((0 : Int), ()))))))))) = some (.inr ()) := hloop
  simp only [lMembers, fixed_is, Option.bind_some, Bool.not_true, cond_false, h1, h2, h3, h4, h5, h6, k1, k2, k3, k4, r1, r2, r3, cond_true, hloop']

end Go.Vt.Sg

namespace Go.Vt.Sg
open Go Go.Vt Go.Vt.Rm Go.Sort Go.Vt.Srt

theorem of_has (x t : Tx) (ht : gd t = true) : hasS (ofS x) t = (decide (t = x) && !decide (t = [])) := by
  have hno : hasS noS t = false := by
    unfold hasS
    cases R t with
    | nil => rfl
    | cons r l => cases l <;> simp [noS, hv, has]
  have hne : ∀ {r l}, R t = r :: l → t ≠ [] := fun {r l} h e => by subst e; simp [R, runes, u8s, pts] at h
  unfold ofS
  split
  · rename_i hg
    rw [hno]
    have : t ≠ x := fun e => by subst e; rw [ht] at hg; cases hg
    simp [this]
  · rename_i hg
    have hg' : gd x = true := by simpa using hg
    split
    · rename_i hR
      have := R_nil hR
      subst this
      rw [hno]
      by_cases h : t = [] <;> simp [h]
    · rename_i r hR
      cases hT : R t with
      | nil =>
        have := R_nil hT
        subst this
        rw [has_nil]; simp
      | cons q l =>
        have hn := hne hT
        cases l with
        | nil =>
          have e : hasS ([(r, r)], ([], [])) t = hv [(r, r)] q := by unfold hasS; rw [hT]
          rw [e]
          have hq := vld_inr (R_vld t q (by rw [hT]; simp))
          simp only [inr, Bool.and_eq_true, decide_eq_true_eq] at hq
          have hv1 : hv [(r, r)] q = decide (q = r) := by
            unfold hv
            simp only [hq.1, hq.2, decide_true, Bool.true_and, has, List.any_cons, List.any_nil, Bool.or_false]
            by_cases h : q = r
            · subst h; simp
            · simp only [h, decide_false]
              cases h1 : decide (r ≤ q) <;> cases h2 : decide (q ≤ r) <;> simp at h1 h2 ⊢ <;> omega
          rw [hv1]
          by_cases h : t = x
          · subst h; rw [hR] at hT; cases hT; simp [hn]
          · have : q ≠ r := fun e => h (good_inj ht hg' (by rw [hT, hR, e]))
            simp [h, this]
        | cons q2 l =>
          have e : hasS ([(r, r)], ([], [])) t = false := by unfold hasS; rw [hT]; simp [hv, has]
          rw [e]
          have : t ≠ x := fun e => by subst e; rw [hR] at hT; cases hT
          simp [this]
    · rename_i r q l hR
      cases hT : R t with
      | nil =>
        have := R_nil hT
        subst this
        rw [has_nil]; simp
      | cons q1 l1 =>
        have hn := hne hT
        cases l1 with
        | nil =>
          have e : hasS ([], ([], [x])) t = false := by unfold hasS; rw [hT]; simp [hv, has]
          rw [e]
          have : t ≠ x := fun e => by subst e; rw [hR] at hT; cases hT
          simp [this]
        | cons q2 l1 =>
          have e : hasS ([], ([], [x])) t = decide (t = x) := by unfold hasS; rw [hT]; simp [hv, has]
          rw [e]
          simp [hn]

structure Inv (pre : List Tx) (s : TSet) : Prop where
  nr : NrS s
  ok : OkS pre.length s
  has : ∀ t, gd t = true → hasS s t = (decide (t ∈ pre) && !decide (t = []))

theorem texts_loop (a1 : List Tx) : ∀ (rest pre : List Tx) (s : TSet) (l0 : List Tx) (n : Nat), Inv pre s → (∀ t ∈ rest, t.length ≤ 10000000) → pre.length + rest.length ≤ 1100000 → rest.length < n →
    ∃ s', iterN (fun x => lTexts_s7 x.1 x.2.1 x.2.2.1 x.2.2.2.1 x.2.2.2.2.1 x.2.2.2.2.2.1) n (l0, (a1, (s, (pre ++ rest, (((pre ++ rest).length : Int), (((pre.length : Nat) : Int), ())))))) = some (l0, (a1, (s', ()))) ∧ Inv (pre ++ rest) s' := by
  intro rest
  induction rest with
  | nil =>
    intro pre s l0 n hi ht h1 hn
    obtain ⟨n, rfl⟩ := succ_of hn
    refine ⟨s, iterN_inr ?_, by simpa using hi⟩
    simp [lTexts_s7]
  | cons r rest ih =>
    intro pre s l0 n hi ht h1 hn
    simp only [List.length_cons] at h1 hn
    obtain ⟨n, rfl⟩ := succ_of hn
    have hlt : ((pre.length : Nat) : Int) < ((pre ++ r :: rest).length : Int) := lt_mid
    have ew : IntKind.i64.wrap (((pre.length : Nat) : Int) + 1) = (((pre ++ [r]).length : Nat) : Int) := w_mid (by omega)
    have hrl := ht r (by simp)
    have e1 := sOf_is r hrl
    have oo := ok_of r hrl
    have e2 := sUnion_is s (ofS r) (hi.ok.mono (by omega)) (oo.mono (by omega))
    have l1 := hi.ok.2.2.1; have l2 := oo.2.2.1
    have hi' : Inv (pre ++ [r]) (joinS uB s (ofS r)) := by
      refine ⟨nrU _ _ (by omega) (by omega), by have := okU hi.ok oo (by omega) (by omega); simpa using this, fun t hg => ?_⟩
      rw [hasU (by omega) (by omega), normS_same hi.nr, normS_same (of_nr r), hi.has t hg, of_has r t hg]
      have : decide (t ∈ pre ++ [r]) = (decide (t ∈ pre) || decide (t = r)) := by simp
      rw [this]
      cases decide (t ∈ pre) <;> cases decide (t = r) <;> cases decide (t = []) <;> rfl
    obtain ⟨s', g1, g2⟩ := ih (pre ++ [r]) (joinS uB s (ofS r)) l0 n hi' (fun t h => ht t (by simp [h])) (by simp; omega) (by omega)
    rw [show (pre ++ [r]) ++ rest = pre ++ r :: rest by simp] at g1 g2
    refine ⟨s', (iterN_inl ?_).trans g1, g2⟩
    simp only [lTexts_s7, hlt, decide_true, cond_true, lk_mid, Option.bind_some, e1, e2, ew]

theorem in_loop (s : TSet) (t : Tx) (L : List Tx) (n1 i1 : Int) : ∀ (rest pre : List Tx) (b : Bool) (l0 : List Tx) (n : Nat), pre.length + rest.length ≤ 100000000 → rest.length < n →
    iterN (fun x => lTexts_s21 x.1 x.2.1 x.2.2.1 x.2.2.2.1 x.2.2.2.2.1 x.2.2.2.2.2.1 x.2.2.2.2.2.2.1 x.2.2.2.2.2.2.2.1 x.2.2.2.2.2.2.2.2.1 x.2.2.2.2.2.2.2.2.2.1) n (l0, (s, (t, (b, (L, (n1, (i1, (pre ++ rest, (((pre ++ rest).length : Int), (((pre.length : Nat) : Int), ())))))))))) =
      some (l0, (s, (t, (b || (decide (t ∈ rest) && !(t == ([] : Tx))), (L, (n1, (i1, ()))))))) := by
  intro rest
  induction rest with
  | nil =>
    intro pre b l0 n h1 hn
    obtain ⟨n, rfl⟩ := succ_of hn
    refine iterN_inr ?_
    simp [lTexts_s21]
  | cons r rest ih =>
    intro pre b l0 n h1 hn
    simp only [List.length_cons] at h1 hn
    obtain ⟨n, rfl⟩ := succ_of hn
    have hlt : ((pre.length : Nat) : Int) < ((pre ++ r :: rest).length : Int) := lt_mid
    have ew : IntKind.i64.wrap (((pre.length : Nat) : Int) + 1) = (((pre ++ [r]).length : Nat) : Int) := w_mid (by omega)
    have hs := fun b => ih (pre ++ [r]) b l0 n (by simp; omega) (by omega)
    simp only [show (pre ++ [r]) ++ rest = pre ++ r :: rest by simp] at hs
    cases b with
    | true =>
      have h := hs true
      rw [Bool.true_or] at h
      rw [Bool.true_or]
      refine (iterN_inl ?_).trans h
      simp only [lTexts_s21, hlt, decide_true, cond_true, lk_mid, Option.bind_some, ew]
    | false =>
      by_cases hc : r = t
      · subst hc
        have h := hs (!(r == ([] : Tx)))
        have e : ((!(r == ([] : Tx))) || (decide (r ∈ rest) && !(r == ([] : Tx)))) = (false || (decide (r ∈ r :: rest) && !(r == ([] : Tx)))) := by
          have : decide (r ∈ r :: rest) = true := by simp
          rw [this]
          cases (r == ([] : Tx)) <;> cases decide (r ∈ rest) <;> rfl
        rw [e] at h
        refine (iterN_inl ?_).trans h
        simp only [lTexts_s21, hlt, decide_true, cond_true, cond_false, lk_mid, Option.bind_some, beq_self_eq_true, ew]
      · have h := hs false
        have e : decide (t ∈ r :: rest) = decide (t ∈ rest) := by
          have : t ≠ r := Ne.symm hc
          simp [this]
        rw [e]
        have hb : (r == t) = false := by simp [hc]
        refine (iterN_inl ?_).trans h
        simp only [lTexts_s21, hlt, decide_true, cond_true, cond_false, lk_mid, Option.bind_some, hb, ew]

theorem ask_loop (l : List Tx) (s : TSet) (hi : Inv l s) (hl : l.length ≤ 1100000) : ∀ (rest pre : List Tx) (n : Nat), (∀ t ∈ rest, t.length ≤ 10000000) → pre.length + rest.length ≤ 100000000 → rest.length < n →
    iterN (fun x => lTexts_s16 x.1 x.2.1 x.2.2.1 x.2.2.2.1 x.2.2.2.2.1) n (l, (s, (pre ++ rest, (((pre ++ rest).length : Int), (((pre.length : Nat) : Int), ()))))) = some (.inr (s, ())) := by
  intro rest
  induction rest with
  | nil =>
    intro pre n ht h1 hn
    obtain ⟨n, rfl⟩ := succ_of hn
    refine iterN_inr ?_
    simp [lTexts_s16]
  | cons r rest ih =>
    intro pre n ht h1 hn
    simp only [List.length_cons] at h1 hn
    obtain ⟨n, rfl⟩ := succ_of hn
    have hlt : ((pre.length : Nat) : Int) < ((pre ++ r :: rest).length : Int) := lt_mid
    have ew : IntKind.i64.wrap (((pre.length : Nat) : Int) + 1) = (((pre ++ [r]).length : Nat) : Int) := w_mid (by omega)
    have hrl := ht r (by simp)
    have hs := ih (pre ++ [r]) n (fun t h => ht t (by simp [h])) (by simp; omega) (by omega)
    rw [show (pre ++ [r]) ++ rest = pre ++ r :: rest by simp] at hs
    have hin := in_loop s r (pre ++ r :: rest) (((pre ++ r :: rest).length : Nat) : Int) ((pre.length : Nat) : Int) l [] false l fuelN (by simp; omega) (by have := fuelN_le; omega)
    have hin' : iterN (fun x => lTexts_s21 x.1 x.2.1 x.2.2.1 x.2.2.2.1 x.2.2.2.2.1 x.2.2.2.2.2.1 x.2.2.2.2.2.2.1 x.2.2.2.2.2.2.2.1 x.2.2.2.2.2.2.2.2.1 x.2.2.2.2.2.2.2.2.2.1) fuelN (l, (s, (r, (false, (pre ++ r :: rest, (((pre ++ r :: rest).length : Int), (((pre.length : Nat) : Int), (l, ((l.length : Int), ((0 : Int), ())))))))))) = _ := hin
    have hg6 := good6_is r hrl
    have hsh := sHas_is s r hi.ok.1 hi.ok.2.1 (by have := hi.ok.2.2.1; omega) hrl
    refine (iterN_inl ?_).trans hs
    cases hg : gd r with
    | false =>
      rw [hg] at hg6
      simp only [lTexts_s16, hlt, decide_true, cond_true, cond_false, lk_mid, Option.bind_some, hin', hg6, ew]
    | true =>
      rw [hg] at hg6
      have e : hasS s r = (false || (decide (r ∈ l) && !(r == ([] : Tx)))) := by
        rw [hi.has r hg]
        have : decide (r = []) = (r == ([] : Tx)) := by cases r <;> rfl
        rw [this, Bool.false_or]
      rw [e] at hsh
      simp only [lTexts_s16, hlt, decide_true, cond_true, lk_mid, Option.bind_some, hin', hg6, hsh, beq_self_eq_true, Bool.not_true, cond_false, ew]

/- - SEGSETTEXTS -/
theorem lTexts_is (l ask : List Tx) (hl : l.length ≤ 1100000) (ha : ask.length ≤ 1100000) (ht : ∀ t ∈ l, t.length ≤ 10000000) (ht' : ∀ t ∈ ask, t.length ≤ 10000000) : lTexts l ask = some ((), (true, ())) := by
  obtain ⟨s, h1, hi⟩ := texts_loop ask l [] noS l fuelN ⟨no_nr, ok_no, fun t hg => by
    have := of_has [] t hg
    have e : ofS [] = noS := by kernel_rfl
    rw [e] at this
    rw [this]
    by_cases h : t = [] <;> simp [h]⟩ ht (by simp; omega) (by have := fuelN_le; omega)
  rw [List.nil_append] at hi
  have h1' : iterN (fun x => lTexts_s7 x.1 x.2.1 x.2.2.1 x.2.2.2.1 x.2.2.2.2.1 x.2.2.2.2.2.1) fuelN (l, (ask, ((([] : List (Int × Int)), (([] : List (Int × Int)), ([] : List (List UInt8)))), (l, ((l.length : Int), ((0 : Int), ())))))) = some (l, (ask, (s, ()))) := h1
  have r1 : roomOk (([] : List Tx).length + ask.length) 16 = true := room16 (by simp; omega)
  have r2 : roomOk ((([] : List Tx) ++ ask).length + l.length) 16 = true := room16 (by simp; omega)
  have h2 := ask_loop l s hi hl ((([] : List Tx) ++ ask) ++ l) [] fuelN (fun t h => by
    rcases List.mem_append.1 h with h | h
    · exact ht' t (by simpa using h)
    · exact ht t h) (by simp; omega) (by have := fuelN_le; simp; omega)
  have h2' : iterN (fun x => lTexts_s16 x.1 x.2.1 x.2.2.1 x.2.2.2.1 x.2.2.2.2.1) fuelN (l, (s, ((([] : List Tx) ++ ask) ++ l, ((((([] : List Tx) ++ ask) ++ l).length : Int), ((0 : Int), ()))))) = some (.inr (s, ())) := h2
  have h3 := sMay_is s (hi.ok.mono (by omega))
  rw [decide_eq_true (normS_same hi.nr)] at h3
  simp only [lTexts, fixed_is, Option.bind_some, Bool.not_true, cond_false, h1', r1, r2, cond_true, h2', h3]

/- a code point's bytes are read as the code point -/
theorem front_enc (r : Int) (h : vld r = true) : front (encR r) = (r, (encR r).length, false) := by
  simp only [vld, Bool.and_eq_true, Bool.or_eq_true, decide_eq_true_eq] at h
  obtain ⟨h0, h1, h2⟩ := h
  unfold encR
  by_cases d1 : r < 128
  · rw [if_pos d1]
    simp [front, bd, d1, mt, vl]
  rw [if_neg d1]
  by_cases d2 : r < 2048
  · rw [if_pos d2]
    have b : bd (192 + r / 64) = some (r / 64, [(128, 191)]) := by
      unfold bd
      rw [if_neg (by omega), if_neg (by omega), if_pos (by omega)]
      simp; omega
    have m : mt [(128, 191)] [128 + r % 64] = 1 := by simp [mt]; omega
    simp only [front, b, m, List.length_cons, List.length_nil, Nat.lt_irrefl, if_false, vl]
    simp; omega
  rw [if_neg d2]
  by_cases d3 : r < 65536
  · rw [if_pos d3]
    have b : bd (224 + r / 4096) = some (r / 4096, [(if 224 + r / 4096 = 224 then 160 else 128, if 224 + r / 4096 = 237 then 159 else 191), (128, 191)]) := by
      unfold bd
      rw [if_neg (by omega), if_neg (by omega), if_neg (by omega), if_pos (by omega)]
      simp; omega
    have m : mt [(if 224 + r / 4096 = 224 then 160 else 128, if 224 + r / 4096 = 237 then 159 else 191), (128, 191)] [128 + r / 64 % 64, 128 + r % 64] = 2 := by
      simp only [mt]
      rw [if_pos (by constructor <;> split <;> omega), if_pos (by omega)]
    simp only [front, b, m, List.length_cons, List.length_nil, Nat.lt_irrefl, if_false, vl]
    simp; omega
  rw [if_neg d3]
  have b : bd (240 + r / 262144) = some (r / 262144, [(if 240 + r / 262144 = 240 then 144 else 128, if 240 + r / 262144 = 244 then 143 else 191), (128, 191), (128, 191)]) := by
    unfold bd
    rw [if_neg (by omega), if_neg (by omega), if_neg (by omega), if_neg (by omega), if_pos (by omega)]
    simp; omega
  have m : mt [(if 240 + r / 262144 = 240 then 144 else 128, if 240 + r / 262144 = 244 then 143 else 191), (128, 191), (128, 191)] [128 + r / 4096 % 64, 128 + r / 64 % 64, 128 + r % 64] = 3 := by
    simp only [mt]
    rw [if_pos (by constructor <;> split <;> omega), if_pos (by omega), if_pos (by omega)]
  simp only [front, b, m, List.length_cons, List.length_nil, Nat.lt_irrefl, if_false, vl]
  simp; omega

theorem encR_bytes (r : Int) (h0 : 0 ≤ r) (h1 : r ≤ 1114111) : Bytes (encR r) := by
  intro x hx
  unfold encR at hx
  split at hx
  · simp only [List.mem_singleton] at hx; subst hx; exact ⟨h0, by omega⟩
  split at hx
  · simp only [List.mem_cons, List.not_mem_nil, or_false] at hx; rcases hx with rfl | rfl <;> exact ⟨by omega, by omega⟩
  split at hx
  · simp only [List.mem_cons, List.not_mem_nil, or_false] at hx; rcases hx with rfl | rfl | rfl <;> exact ⟨by omega, by omega⟩
  · simp only [List.mem_cons, List.not_mem_nil, or_false] at hx; rcases hx with rfl | rfl | rfl | rfl <;> exact ⟨by omega, by omega⟩
theorem u8s_s8u : ∀ (l : List Int), Bytes l → u8s (s8u l) = l
  | [], _ => rfl
  | x :: l, h => by
    have hx := h x (by simp)
    have ih := u8s_s8u l (fun y hy => h y (by simp [hy]))
    have e : (((UInt8.ofNat x.toNat).toNat : Nat) : Int) = x := by
      have h1 := hx.1; have h2 := hx.2
      simp
      omega
    simp only [u8s, s8u, List.map_cons] at ih ⊢
    rw [e, ih]
theorem R_enc (r : Int) (h : vld r = true) : R (s8u (enc [r])) = [r] := by
  have hf : fix r = r := by unfold fix; rw [if_pos h]
  have e : enc [r] = encR r := by simp [enc, hf]
  have hr := h
  simp only [vld, Bool.and_eq_true, decide_eq_true_eq] at hr
  unfold R
  rw [e, u8s_s8u _ (encR_bytes r hr.1 hr.2.1)]
  have hfr := front_enc r h
  obtain ⟨l1, l2⟩ := encR_length r
  unfold runes
  cases hE : encR r with
  | nil => rw [hE] at l1; simp at l1
  | cons c xs =>
    rw [hE] at hfr
    have hd : (c :: xs).drop (c :: xs).length = [] := by simp
    simp only [List.length_cons, pts, hfr] at hd ⊢
    rw [hd]
    have : ∀ k a, pts k [] a = [] := fun k a => by cases k <;> rfl
    rw [this]
    rfl

theorem first_loop (l : List (Int × Int)) (hl : l.length ≤ 2000000) : ∀ (rest pre : List Tx) (n : Nat), (∀ t ∈ rest, t.length ≤ 10000000) → pre.length + rest.length ≤ 100000000 → rest.length < n →
    iterN (fun x => lFirsts_s8 x.1 x.2.1 x.2.2.1 x.2.2.2.1 x.2.2.2.2.1 x.2.2.2.2.2.1) n (l, ((norm l, (norm l, [])), ((norm l, ([], [])), (pre ++ rest, (((pre ++ rest).length : Int), (((pre.length : Nat) : Int), ())))))) = some (.inr ((norm l, (norm l, [])), ((norm l, ([], [])), ()))) := by
  intro rest
  induction rest with
  | nil =>
    intro pre n ht h1 hn
    obtain ⟨n, rfl⟩ := succ_of hn
    refine iterN_inr ?_
    simp [lFirsts_s8]
  | cons t rest ih =>
    intro pre n ht h1 hn
    simp only [List.length_cons] at h1 hn
    obtain ⟨n, rfl⟩ := succ_of hn
    have hlt : ((pre.length : Nat) : Int) < ((pre ++ t :: rest).length : Int) := lt_mid
    have ew : IntKind.i64.wrap (((pre.length : Nat) : Int) + 1) = (((pre ++ [t]).length : Nat) : Int) := w_mid (by omega)
    have hrl := ht t (by simp)
    have hs := ih (pre ++ [t]) n (fun t h => ht t (by simp [h])) (by simp; omega) (by omega)
    rw [show (pre ++ [t]) ++ rest = pre ++ t :: rest by simp] at hs
    refine (iterN_inl ?_).trans hs
    have oF := ok_first l
    have oO := ok_ones l
    have hr : runes1 (u8s t) = some ((), (R t, ())) := runes1_is (u8s t) (bytes_u8s t) (by rw [u8s_length]; exact hrl)
    have e1 := sFirst_is l hl
    have e2 := sHas_is (norm l, (norm l, [])) t oF.1 oF.2.1 (by simp) hrl
    have e3 := sHas_is (norm l, ([], [])) t oO.1 oO.2.1 (by simp) hrl
    have e4 := sNot_is (norm l, (norm l, [])) (oF.mono (by omega))
    have oN := okN oF (by omega)
    have e5 := sHas_is (notS (norm l, (norm l, []))) t oN.1 oN.2.1 (by have := oN.2.2.1; omega) hrl
    rw [hasN (by simp), normS_same (first_nr l), hasFst] at e5
    rw [hasFst] at e2
    rw [hasOns] at e3
    cases hR : R t with
    | nil =>
      have := R_nil hR
      subst this
      rw [hR] at e2 e3 e5 hr
      have e2 : sHas (norm l, (norm l, [])) [] = some ((), (false, ())) := e2
      have e3 : sHas (norm l, ([], [])) [] = some ((), (false, ())) := e3
      have e5 : sHas (notS (norm l, (norm l, []))) [] = some ((), (false, ())) := e5
      have c2 : (false == false) = true := rfl
      have h0 : decide ((([] : List Int).length : Int) > (0 : Int)) = false := rfl
      simp only [lFirsts_s8, hlt, decide_true, cond_true, lk_mid, Option.bind_some, hr, h0, cond_false, e2, e3, e4, e5, ew, c2, Bool.not_true, Bool.not_false]
    | cons r m =>
      have hne : decide (t = []) = false := by
        cases t with
        | nil => simp [R, runes, u8s, pts] at hR
        | cons c t => simp
      rw [hR, hne] at e5
      rw [hR] at e2 e3 hr
      have hv' := R_vld t r (by rw [hR]; simp)
      have hml : (r :: m).length ≤ 10000000 := by have := R_length t; rw [hR] at this; omega
      have h0 : decide ((((r :: m).length : Nat) : Int) > (0 : Int)) = true := by simp
      have hin : inB (0 : Int) (1 : Int) (r :: m).length = true := by simp [inB]; omega
      have htk : ((r :: m).drop (0 : Int).toNat).take ((1 : Int) - (0 : Int)).toNat = [r] := rfl
      have h6 := encode1_is [r] (by simp)
      have hlen : (s8u (enc [r])).length ≤ 10000000 := by
        have := encR_length (fix r)
        simp [s8u, enc]; omega
      have h7 := sHas_is (norm l, (norm l, [])) (s8u (enc [r])) oF.1 oF.2.1 (by simp) hlen
      rw [hasFst, R_enc r hv'] at h7
      have c1 : (true == true) = true := rfl
      have c2 : (false == false) = true := rfl
      cases m with
      | nil =>
        have hone : (((([r] : List Int).length : Nat) : Int) == (1 : Int)) = true := rfl
        have e2 : sHas (norm l, (norm l, [])) t = some ((), (hv l r, ())) := e2
        have e3 : sHas (norm l, ([], [])) t = some ((), (hv l r, ())) := e3
        have e5 : sHas (notS (norm l, (norm l, []))) t = some ((), (!false && !hv l r, ())) := e5
        have h7 : sHas (norm l, (norm l, [])) (s8u (enc [r])) = some ((), (hv l r, ())) := h7
        cases hh : hv l r <;> rw [hh] at e2 e3 e5 h7 <;>
          simp only [lFirsts_s8, hlt, decide_true, cond_true, cond_false, lk_mid, Option.bind_some, hr, h0, hin, htk, e1, h6, h7, e2, e3, e4, e5, hone, ew, c1, c2, Bool.not_true, Bool.not_false, Bool.and_self, Bool.and_false]
      | cons q m =>
        have hone : ((((r :: q :: m).length : Nat) : Int) == (1 : Int)) = false := by simp; omega
        have e2 : sHas (norm l, (norm l, [])) t = some ((), (hv l r, ())) := e2
        have e3 : sHas (norm l, ([], [])) t = some ((), (false, ())) := e3
        have e5 : sHas (notS (norm l, (norm l, []))) t = some ((), (!false && !hv l r, ())) := e5
        have h7 : sHas (norm l, (norm l, [])) (s8u (enc [r])) = some ((), (hv l r, ())) := h7
        cases hh : hv l r <;> rw [hh] at e2 e5 h7 <;>
          simp only [lFirsts_s8, hlt, decide_true, cond_true, cond_false, lk_mid, Option.bind_some, hr, h0, hin, htk, e1, h6, h7, e2, e3, e4, e5, hone, ew, c1, c2, Bool.not_true, Bool.not_false, Bool.and_self, Bool.and_false]

/- - SEGSETFIRSTS -/
theorem lFirsts_is (l : List (Int × Int)) (texts : List Tx) (hl : l.length ≤ 1100000) (hn : texts.length ≤ 1100000) (ht : ∀ t ∈ texts, t.length ≤ 10000000) : lFirsts l texts = some ((), (true, ())) := by
  have e1 := sFirst_is l (by omega)
  have e2 := sOnes_is l (by omega)
  have h1 := first_loop l (by omega) texts [] fuelN ht (by simp; omega) (by have := fuelN_le; omega)
  have h1' : iterN (fun x => lFirsts_s8 x.1 x.2.1 x.2.2.1 x.2.2.2.1 x.2.2.2.2.1 x.2.2.2.2.2.1) fuelN (l, ((norm l, (norm l, [])), ((norm l, ([], [])), (texts, ((texts.length : Int), ((0 : Int), ())))))) = some (.inr ((norm l, (norm l, [])), ((norm l, ([], [])), ()))) := h1
  have oF := ok_first l
  have oO := ok_ones l
  have e3 := sUnion_is (norm l, (norm l, [])) (norm l, ([], [])) (oF.mono (by omega)) (oO.mono (by omega))
  have e4 := sMeet_is (norm l, (norm l, [])) (norm l, ([], [])) (oF.mono (by omega)) (oO.mono (by omega))
  have oU := okU oF oO (by omega) (by omega)
  have oM := okM oF oO (by omega) (by omega)
  have e5 := sEqual_is _ _ (oU.mono (show 0 + 0 ≤ 20000000 by omega)) (oF.mono (by omega))
  have e6 := sEqual_is _ _ (oM.mono (show 0 + 0 ≤ 20000000 by omega)) (oO.mono (by omega))
  have hnil : ∀ r : Int, hv ([] : List (Int × Int)) r = false := fun r => by simp [hv, has]
  have hsub : ∀ t, hasS (norm l, ([], [])) t = true → hasS (norm l, (norm l, [])) t = true := fun t h => by
    rw [hasOns] at h
    rw [hasFst]
    cases hR : R t with
    | nil => rw [hR] at h; cases h
    | cons r m =>
      rw [hR] at h
      cases m with
      | nil => exact h
      | cons q m => cases h
  have u1 : joinS uB (norm l, (norm l, [])) (norm l, ([], [])) = (norm l, (norm l, [])) := by
    refine NrS.ext (nrU _ _ (by simp) (by simp)) (first_nr l) (fun r => ?_) (fun r => ?_) fun t => ?_
    · rw [oneU]; simp
    · rw [mulU]; simp [hnil]
    · rw [hasU (by simp) (by simp), normS_same (first_nr l), normS_same (ones_nr l)]
      have := hsub t
      revert this
      cases hasS (norm l, ([], [])) t <;> cases hasS (norm l, (norm l, [])) t <;> simp
  have u2 : joinS mB (norm l, (norm l, [])) (norm l, ([], [])) = (norm l, ([], [])) := by
    refine NrS.ext (nrM _ _ (by simp) (by simp)) (ones_nr l) (fun r => ?_) (fun r => ?_) fun t => ?_
    · rw [oneM]; simp
    · rw [mulM]; simp [hnil]
    · rw [hasM (by simp) (by simp), normS_same (first_nr l), normS_same (ones_nr l)]
      have := hsub t
      revert this
      cases hasS (norm l, ([], [])) t <;> cases hasS (norm l, (norm l, [])) t <;> simp
  rw [u1, decide_eq_true rfl] at e5
  rw [u2, decide_eq_true rfl] at e6
  rw [u1] at e3
  rw [u2] at e4
  simp only [lFirsts, fixed_is, Option.bind_some, Bool.not_true, cond_false, e1, e2, h1', e3, e5, cond_true, e4, e6]

end Go.Vt.Sg
