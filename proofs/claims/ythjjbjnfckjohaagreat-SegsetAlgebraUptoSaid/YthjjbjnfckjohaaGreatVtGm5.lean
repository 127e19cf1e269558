/- slices.Compact, and what the sweep's edges are. -/
import Derived.Test.YthjjbjnfckjohaaGreatVtGm4
set_option linter.unusedVariables false
set_option maxRecDepth 100000
namespace Go.Vt.Sg
open Go Go.Vt Go.Vt.Rm Go.Sort Go.Vt.Srt

def ddt (u : Int) : List Int → List Int
  | [] => []
  | r :: l => if r = u then ddt u l else r :: ddt r l
def cpt : List Int → List Int
  | [] => []
  | x :: l => x :: ddt x l

theorem ddt_length : ∀ (l : List Int) (u : Int), (ddt u l).length ≤ l.length
  | [], _ => Nat.le_refl _
  | r :: l, u => by
    simp only [ddt]
    split
    · have := ddt_length l u; simp only [List.length_cons]; omega
    · have := ddt_length l r; simp only [List.length_cons]; omega

theorem lk_idx {l : List Int} {i : Nat} {x : Int} (h : l[i]? = some x) : lk l (i : Int) = some x := by
  unfold lk
  rw [if_pos (by omega)]
  simpa using h

theorem phase2 (start L : Nat) : ∀ (rest : List Int) (u : Int) (W M : List Int) (k2 n : Nat), W.length + M.length + 1 + rest.length = start + L → start + k2 = W.length + M.length + 1 → start + L ≤ 200000000 → 0 < k2 → rest.length < n →
    ∃ g, iterN (fun x => compactI_s14 x.1 x.2.1 x.2.2.1 x.2.2.2.1) n (W ++ M ++ u :: rest, (((W.length : Nat) : Int), (((start, L) : Nat × Nat), (((k2 : Nat) : Int), ())))) = some (g, ((((W ++ ddt u rest).length : Nat) : Int), ())) ∧
      g.take (W ++ ddt u rest).length = W ++ ddt u rest ∧ g.length = start + L := by
  intro rest
  induction rest with
  | nil =>
    intro u W M k2 n h1 h2 h3 h0 hn
    obtain ⟨n, rfl⟩ := succ_of hn
    simp only [List.length_nil] at h1
    have hlt : ¬ ((k2 : Nat) : Int) < ((L : Nat) : Int) := by omega
    refine ⟨W ++ M ++ [u], iterN_inr ?_, by simp [ddt], by simp; omega⟩
    simp only [compactI_s14, hlt, decide_false, cond_false, ddt, List.append_nil, Option.bind_some]
  | cons r rest ih =>
    intro u W M k2 n h1 h2 h3 h0 hn
    simp only [List.length_cons] at h1 hn
    obtain ⟨n, rfl⟩ := succ_of hn
    have hlt : ((k2 : Nat) : Int) < ((L : Nat) : Int) := by omega
    have i1 : inR ((k2 : Nat) : Int) L = true := by simp only [inR, Bool.and_eq_true, decide_eq_true_eq]; omega
    have w1 : IntKind.i64.wrap (((k2 : Nat) : Int) - 1) = ((k2 - 1 : Nat) : Int) := w_pred' h0 (by omega)
    have i2 : inR ((k2 - 1 : Nat) : Int) L = true := by simp only [inR, Bool.and_eq_true, decide_eq_true_eq]; omega
    have p1 : plusI start ((k2 : Nat) : Int) = ((W.length + M.length + 1 : Nat) : Int) := by simp only [plusI]; omega
    have p2 : plusI start ((k2 - 1 : Nat) : Int) = ((W.length + M.length : Nat) : Int) := by simp only [plusI]; omega
    have l1 : lk (W ++ M ++ u :: r :: rest) ((W.length + M.length + 1 : Nat) : Int) = some r := lk_idx (by
      rw [List.getElem?_append_right (by simp)]; simp)
    have l2 : lk (W ++ M ++ u :: r :: rest) ((W.length + M.length : Nat) : Int) = some u := lk_idx (by
      rw [List.getElem?_append_right (by simp)]; simp)
    have w2 : IntKind.i64.wrap (((k2 : Nat) : Int) + 1) = ((k2 + 1 : Nat) : Int) := w_succ (by omega)
    by_cases hc : r = u
    · subst hc
      obtain ⟨g, g1, g2, g3⟩ := ih r W (M ++ [r]) (k2 + 1) n (by simp; omega) (by simp; omega) h3 (by omega) (by omega)
      have e : W ++ (M ++ [r]) ++ r :: rest = W ++ M ++ r :: r :: rest := by simp
      rw [e] at g1
      have hd : ddt r (r :: rest) = ddt r rest := by simp [ddt]
      rw [hd]
      refine ⟨g, (iterN_inl ?_).trans g1, g2, g3⟩
      have hb : (r != r) = false := by simp
      simp only [compactI_s14, hlt, decide_true, cond_true, cond_false, i1, i2, w1, p1, p2, l1, l2, Option.bind_some, hb, w2]
    · have hd : ddt u (r :: rest) = r :: ddt r rest := by simp [ddt, hc]
      rw [hd]
      obtain ⟨h, T, hT⟩ : ∃ h T, M ++ [u] = h :: T := by cases M with | nil => exact ⟨u, [], rfl⟩ | cons m M => exact ⟨m, M ++ [u], rfl⟩
      have hTl : T.length = M.length := by have := congrArg List.length hT; simp at this; omega
      have eg : W ++ M ++ u :: r :: rest = W ++ h :: (T ++ r :: rest) := by
        rw [show W ++ M ++ u :: r :: rest = W ++ ((M ++ [u]) ++ r :: rest) by simp, hT]; simp
      have l3 : lk (W ++ M ++ u :: r :: rest) ((W.length : Nat) : Int) = some h := by rw [eg]; exact lk_mid
      have hset : (W ++ M ++ u :: r :: rest).set ((W.length : Nat) : Int).toNat r = (W ++ [r]) ++ T ++ r :: rest := by
        rw [eg, Int.toNat_natCast, List.set_append_right _ _ (Nat.le_refl _)]; simp
      obtain ⟨g, g1, g2, g3⟩ := ih r (W ++ [r]) T (k2 + 1) n (by simp; omega) (by simp; omega) h3 (by omega) (by omega)
      have e2 : (W ++ [r]) ++ ddt r rest = W ++ r :: ddt r rest := by simp
      rw [e2] at g1 g2
      refine ⟨g, (iterN_inl ?_).trans g1, g2, g3⟩
      have hb : (r != u) = true := by simp [hc]
      have w3 : IntKind.i64.wrap (((W.length : Nat) : Int) + 1) = (((W ++ [r]).length : Nat) : Int) := w_mid (by omega)
      simp only [compactI_s14, hlt, decide_true, cond_true, i1, i2, w1, p1, p2, l1, l2, l3, Option.bind_some, hb, w2, w3, hset]

theorem phase1 : ∀ (rest : List Int) (p : Int) (pre : List Int) (n : Nat), pre.length + rest.length ≤ 100000000 → rest.length < n →
    ∃ y, iterN (fun x => compactI_s4 x.1 x.2.1) n (pre ++ p :: rest, (((pre.length + 1 : Nat) : Int), ())) = some y ∧
      (y = .inl (pre ++ p :: ddt p rest, ()) ∨ y = .inr (pre ++ p :: ddt p rest, ())) := by
  intro rest
  induction rest with
  | nil =>
    intro p pre n h1 hn
    obtain ⟨n, rfl⟩ := succ_of hn
    have hlt : ¬ ((pre.length + 1 : Nat) : Int) < ((pre ++ [p]).length : Int) := by simp
    refine ⟨_, iterN_inr ?_, .inr rfl⟩
    simp only [compactI_s4, hlt, decide_false, cond_false, ddt, Option.bind_some]
  | cons q rest ih =>
    intro p pre n h1 hn
    simp only [List.length_cons] at h1 hn
    obtain ⟨n, rfl⟩ := succ_of hn
    have hlen : (pre ++ p :: q :: rest).length = pre.length + rest.length + 2 := by simp; omega
    have hlt : ((pre.length + 1 : Nat) : Int) < ((pre ++ p :: q :: rest).length : Int) := by rw [hlen]; omega
    have l1 : lk (pre ++ p :: q :: rest) ((pre.length + 1 : Nat) : Int) = some q := lk_idx (by rw [List.getElem?_append_right (by omega)]; simp)
    have w1 : IntKind.i64.wrap (((pre.length + 1 : Nat) : Int) - 1) = ((pre.length : Nat) : Int) := w_pred (by omega)
    have l2 : lk (pre ++ p :: q :: rest) ((pre.length : Nat) : Int) = some p := lk_mid
    by_cases hc : q = p
    · subst hc
      have hb : (q == q) = true := by simp
      have hin : inB ((pre.length + 1 : Nat) : Int) ((pre ++ q :: q :: rest).length : Int) (pre ++ q :: q :: rest).length = true := by
        simp only [inB, hlen, Bool.and_eq_true, decide_eq_true_eq]; omega
      have hL : ((((pre ++ q :: q :: rest).length : Nat) : Int) - ((pre.length + 1 : Nat) : Int)).toNat = rest.length + 1 := by rw [hlen]; omega
      obtain ⟨g, g1, g2, g3⟩ := phase2 (pre.length + 1) (rest.length + 1) rest q (pre ++ [q]) [] 1 fuelN (by simp; omega) (by simp) (by omega) (by omega) (by have := fuelN_le; omega)
      have eg : (pre ++ [q]) ++ [] ++ q :: rest = pre ++ q :: q :: rest := by simp
      rw [eg] at g1
      have ew : (((pre ++ [q]).length : Nat) : Int) = ((pre.length + 1 : Nat) : Int) := by simp
      rw [ew] at g1
      have hd : ddt q (q :: rest) = ddt q rest := by simp [ddt]
      have er : pre ++ q :: ddt q (q :: rest) = (pre ++ [q]) ++ ddt q rest := by rw [hd]; simp
      rw [er]
      generalize hR : (pre ++ [q]) ++ ddt q rest = R at g1 g2 ⊢
      have hRl : R.length ≤ pre.length + 1 + (rest.length + 1) := by
        rw [← hR]; have := ddt_length rest q; simp; omega
      have hin2 : inB ((R.length : Nat) : Int) (g.length : Int) g.length = true := by
        simp only [inB, g3, Bool.and_eq_true, decide_eq_true_eq]; omega
      have hRg : R.length ≤ g.length := by omega
      have hcl : (clrL g R.length (g.length - R.length) (0 : Int)).length = g.length := by simp [clrL]; omega
      have hin3 : inB (0 : Int) ((R.length : Nat) : Int) (clrL g R.length (g.length - R.length) (0 : Int)).length = true := by
        rw [hcl]; simp only [inB, Bool.and_eq_true, decide_eq_true_eq]; omega
      have hfin : (((clrL g R.length (g.length - R.length) (0 : Int))).drop (0 : Int).toNat).take (((R.length : Nat) : Int) - 0).toNat = R := by
        have e1 : (((R.length : Nat) : Int) - 0).toNat = R.length := by omega
        rw [e1]
        simp only [Int.toNat_zero, List.drop_zero, clrL]
        rw [List.append_assoc, List.take_append_of_le_length (by simp [g3]; omega), List.take_take, Nat.min_self]
        exact g2
      have hsub : ((((g.length : Nat) : Int)) - ((R.length : Nat) : Int)).toNat = g.length - R.length := by omega
      refine ⟨_, iterN_inr ?_, .inl rfl⟩
      have hone : ((1 : Nat) : Int) = (1 : Int) := rfl
      rw [hone] at g1
      simp only [compactI_s4, hlt, decide_true, cond_true, l1, w1, l2, Option.bind_some, hb, hin, hL, Int.toNat_natCast, g1, hin2, hsub, hin3, hfin]
    · have hb : (q == p) = false := by simp [hc]
      have hd : ddt p (q :: rest) = q :: ddt q rest := by simp [ddt, hc]
      obtain ⟨y, h2, h3⟩ := ih q (pre ++ [p]) n (by simp; omega) (by omega)
      rw [← app_mid] at h2
      have w2 : IntKind.i64.wrap (((pre.length + 1 : Nat) : Int) + 1) = (((pre ++ [p]).length + 1 : Nat) : Int) := by rw [len_succ]; exact w_succ (by omega)
      have e : (pre ++ [p]) ++ q :: ddt q rest = pre ++ p :: q :: ddt q rest := by simp
      rw [e] at h3
      rw [hd]
      refine ⟨y, (iterN_inl ?_).trans h2, h3⟩
      simp only [compactI_s4, hlt, decide_true, cond_true, cond_false, l1, w1, l2, Option.bind_some, hb, w2]

theorem compactI_is (l : List Int) (h : l.length ≤ 100000000) : compactI l = some ((), (cpt l, ())) := by
  cases l with
  | nil => rfl
  | cons x l =>
    cases l with
    | nil => rfl
    | cons y l =>
      simp only [List.length_cons] at h
      have hlt : ¬ (((x :: y :: l).length : Nat) : Int) < 2 := by simp; omega
      obtain ⟨z, h1, h2⟩ := phase1 (y :: l) x [] fuelN (by simp; omega) (by have := fuelN_le; simp; omega)
      have h1' : iterN (fun x => compactI_s4 x.1 x.2.1) fuelN (x :: y :: l, ((1 : Int), ())) = some z := h1
      simp only [compactI, hlt, decide_false, cond_false, Option.bind_some, h1']
      rcases h2 with rfl | rfl <;> rfl

theorem ddt_spec : ∀ (l : List Int) (u : Int), (u :: l).Pairwise (· ≤ ·) → (u :: ddt u l).Pairwise (· < ·) ∧ ∀ y, y ∈ u :: ddt u l ↔ y ∈ u :: l
  | [], u, _ => by simp [ddt]
  | r :: l, u, h => by
    obtain ⟨h1, h2⟩ := List.pairwise_cons.1 h
    simp only [ddt]
    split
    · rename_i e
      subst e
      obtain ⟨h3, h4⟩ := ddt_spec l r h2
      refine ⟨h3, fun y => ?_⟩
      rw [h4]; simp
    · rename_i e
      obtain ⟨h3, h4⟩ := ddt_spec l r h2
      refine ⟨List.pairwise_cons.2 ⟨fun y hy => ?_, h3⟩, fun y => ?_⟩
      · have hy' := (h4 y).1 hy
        have hur := h1 r (by simp)
        rcases List.mem_cons.1 hy' with rfl | hy'
        · omega
        · have := (List.pairwise_cons.1 h2).1 y hy'
          omega
      · rw [List.mem_cons, h4]; exact List.mem_cons.symm
theorem cpt_spec {l : List Int} (h : l.Pairwise (· ≤ ·)) : (cpt l).Pairwise (· < ·) ∧ ∀ y, y ∈ cpt l ↔ y ∈ l := by
  cases l with
  | nil => exact ⟨List.Pairwise.nil, fun y => Iff.rfl⟩
  | cons x l => exact ddt_spec l x h
theorem cpt_length (l : List Int) : (cpt l).length ≤ l.length := by
  cases l with
  | nil => exact Nat.le_refl _
  | cons x l => have := ddt_length l x; simp only [cpt, List.length_cons]; omega

end Go.Vt.Sg
