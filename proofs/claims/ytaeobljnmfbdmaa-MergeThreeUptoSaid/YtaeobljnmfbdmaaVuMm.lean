/- What the printed functions of merge do, one by one: sorting, and each number once. -/
import Derived.Test.YtaeobljnmfbdmaaVuMg1
import Derived.Test.YtaeobljnmfbdmaaVuCanon
set_option linter.unusedVariables false
set_option maxRecDepth 100000
namespace Go.Vu.Mg
open Go Go.Vu Go.Sort Go.Vu.Srt
theorem fuN_le : 9223372036854775808 ≤ fuN := fuelN_le
theorem lk_mid {α : Type} {pre rest : List α} {x : α} : lk (pre ++ x :: rest) ((pre.length : Nat) : Int) = some x := by
  unfold lk
  rw [if_pos (by omega)]
  simp
theorem room8 {n : Nat} (h : n ≤ 1000000000) : roomOk n 8 = true := by
  unfold roomOk
  simp only [decide_eq_true_eq]
  omega
theorem app_mid {α : Type} {pre rest : List α} {x : α} : pre ++ x :: rest = (pre ++ [x]) ++ rest := by simp
theorem len_succ {α : Type} {pre : List α} {x : α} : (pre ++ [x]).length = pre.length + 1 := by simp
theorem lt_mid {α : Type} {pre rest : List α} {x : α} : ((pre.length : Nat) : Int) < ((pre ++ x :: rest).length : Int) := by simp; omega
theorem w_mid {α : Type} {pre : List α} {x : α} (h : pre.length ≤ 200000000) : IntKind.i64.wrap (((pre.length : Nat) : Int) + 1) = (((pre ++ [x]).length : Nat) : Int) := by
  rw [len_succ]
  exact w_succ (by omega)
theorem w_last {α : Type} {o : List α} {z : α} (h : o.length ≤ 200000000) : IntKind.i64.wrap ((((o ++ [z]).length : Nat) : Int) - 1) = ((o.length : Nat) : Int) := by
  rw [len_succ]
  exact w_pred (by omega)
theorem perm_of {α : Type} [Inhabited α] {d d' : Array α} (h : PermIn 0 d.size d d') : d'.toList.Perm d.toList := by
  obtain ⟨h1, _, h3⟩ := h
  have e1 : d.extract 0 d.size = d := by simp
  have e2 : d'.extract 0 d.size = d' := by rw [← h1]; simp
  rw [e1, e2] at h3
  exact h3
theorem p_less_is (p q : Int × Option (Nat × Nat × Nat)) : p_less p q = some ((), ((fun p q : Int × Option (Nat × Nat × Nat) => decide (cmpd p.1 q.1 < 0)) p q, ())) := rfl
theorem cmpd_lt (x y : Int) : (cmpd x y < 0) ↔ x < y := by
  unfold cmpd
  split <;> constructor <;> intro h <;> first | assumption | decide | omega
theorem p_swo : SWO (fun p q : Int × Option (Nat × Nat × Nat) => decide (cmpd p.1 q.1 < 0)) where
  irrefl x := by simp [cmpd_lt]
  trans x y z h1 h2 := by simp [cmpd_lt] at *; omega
  ntrans x y z h1 h2 := by simp [cmpd_lt] at *; omega
theorem sortP_spec (l : List (Int × Option (Nat × Nat × Nat))) (h : l.length ≤ 100000000) : ∃ s, sortP l = some (s, ()) ∧ s.Perm l ∧ s.Pairwise (fun a b => a.1 ≤ b.1) := by
  have hb : Sort.bitsLen l.length ≤ 61 := (bitsLen_le_iff l.length 61).2 (by omega)
  obtain ⟨d', h1, h2, h3⟩ := pdqN_sorts p_less_is p_swo (l.length + 1) 0 l.toArray.size (Sort.bitsLen l.length) l.toArray (by simp) (by omega) (by omega) (by simp; omega) (by omega) (.inl rfl)
  have e0 : IntKind.u64.wrap (l.length : Int) = (l.length : Int) := wrapu64 (by omega) (by omega)
  simp only [List.size_toArray] at h1
  have h1' : Srt.pdqN p_less (l.length + 1) l (0 : Int) (l.length : Int) ((Sort.bitsLen l.length : Nat) : Int) = some (d'.toList, ()) := h1
  refine ⟨d'.toList, ?_, by simpa using perm_of h2, ?_⟩
  ·simp only [sortP, sortG, e0, bitsLen_tie l.length (by omega), Option.bind_some, h1']
  ·refine List.pairwise_iff_getElem.2 fun i j hi hj hij => ?_
   simp only [Array.length_toList] at hi hj
   have hz : d'.size = l.length := by have := h2.1; simpa using this
   have := h3 i j (by omega) hij (by simp; omega)
   simp only [decide_eq_false_iff_not, cmpd_lt] at this
   simp only [Array.getElem_toList]
   rw [getElem!_pos d' j hj, getElem!_pos d' i hi] at this
   omega
theorem i_less_is (x y : Int) : i_less x y = some ((), ((fun x y : Int => decide (x < y)) x y, ())) := rfl
theorem i_swo : SWO (fun x y : Int => decide (x < y)) where
  irrefl x := by simp
  trans x y z h1 h2 := by simp at *; omega
  ntrans x y z h1 h2 := by simp at *; omega
theorem sortI_spec (l : List Int) (h : l.length ≤ 100000000) : ∃ s, sortI l = some (s, ()) ∧ s.Perm l ∧ s.Pairwise (· ≤ ·) := by
  refine ⟨_, sortG_tie i_less_is i_swo (fun x y h1 h2 => by simp at h1 h2; omega) l (by omega) (l.length + 1) (by omega), List.mergeSort_perm _ _, ?_⟩
  have := List.pairwise_mergeSort (le := fun x y : Int => !decide (y < x)) (fun a b c h1 h2 => by simp at h1 h2 ⊢; omega) (fun a b => by simp; omega) l
  exact this.imp (fun h => by simpa using h)
def ddt (u : Int) : List Int → List Int
  | [] => []
  | r :: l => if r = u then ddt u l else r :: ddt r l
def cpt : List Int → List Int
  | [] => []
  | x :: l => x :: ddt x l
theorem ddt_length : ∀ (l : List Int) (u : Int), (ddt u l).length ≤ l.length
  | [], _ => Nat.le_refl _
  | r :: l, u => by
   simp only [ddt]
   split
   ·have := ddt_length l u; simp only [List.length_cons]; omega
   ·have := ddt_length l r; simp only [List.length_cons]; omega
theorem lk_idx {l : List Int} {i : Nat} {x : Int} (h : l[i]? = some x) : lk l (i : Int) = some x := by
  unfold lk
  rw [if_pos (by omega)]
  simpa using h
theorem phase2 (start L : Nat) : ∀ (rest : List Int) (u : Int) (W M : List Int) (k2 n : Nat), W.length + M.length + 1 + rest.length = start + L → start + k2 = W.length + M.length + 1 → start + L ≤ 200000000 → 0 < k2 → rest.length < n →
   ∃ g, iterN (fun x => compactI_s14 x.1 x.2.1 x.2.2.1 x.2.2.2.1) n (W ++ M ++ u :: rest, (((W.length : Nat) : Int), (((start, L) : Nat × Nat), (((k2 : Nat) : Int), ())))) = some (g, ((((W ++ ddt u rest).length : Nat) : Int), ())) ∧
    g.take (W ++ ddt u rest).length = W ++ ddt u rest ∧ g.length = start + L := by
  intro rest
  induction rest with
  | nil =>
   intro u W M k2 n h1 h2 h3 h0 hn
   obtain ⟨n, rfl⟩ := succ_of hn
   simp only [List.length_nil] at h1
   have hlt : ¬ ((k2 : Nat) : Int) < ((L : Nat) : Int) := by omega
   refine ⟨W ++ M ++ [u], iterN_inr ?_, by simp [ddt], by simp; omega⟩
   simp only [compactI_s14, hlt, decide_false, cond_false, ddt, List.append_nil, Option.bind_some]
  | cons r rest ih =>
   intro u W M k2 n h1 h2 h3 h0 hn
   simp only [List.length_cons] at h1 hn
   obtain ⟨n, rfl⟩ := succ_of hn
   have hlt : ((k2 : Nat) : Int) < ((L : Nat) : Int) := by omega
   have i1 : inR ((k2 : Nat) : Int) L = true := by simp only [inR, Bool.and_eq_true, decide_eq_true_eq]; omega
   have w1 : IntKind.i64.wrap (((k2 : Nat) : Int) - 1) = ((k2 - 1 : Nat) : Int) := w_pred' h0 (by omega)
   have i2 : inR ((k2 - 1 : Nat) : Int) L = true := by simp only [inR, Bool.and_eq_true, decide_eq_true_eq]; omega
   have p1 : plusI start ((k2 : Nat) : Int) = ((W.length + M.length + 1 : Nat) : Int) := by simp only [plusI]; omega
   have p2 : plusI start ((k2 - 1 : Nat) : Int) = ((W.length + M.length : Nat) : Int) := by simp only [plusI]; omega
   have l1 : lk (W ++ M ++ u :: r :: rest) ((W.length + M.length + 1 : Nat) : Int) = some r := lk_idx (by
    rw [List.getElem?_append_right (by simp)]; simp)
   have l2 : lk (W ++ M ++ u :: r :: rest) ((W.length + M.length : Nat) : Int) = some u := lk_idx (by
    rw [List.getElem?_append_right (by simp)]; simp)
   have w2 : IntKind.i64.wrap (((k2 : Nat) : Int) + 1) = ((k2 + 1 : Nat) : Int) := w_succ (by omega)
   by_cases hc : r = u
   ·subst hc
    obtain ⟨g, g1, g2, g3⟩ := ih r W (M ++ [r]) (k2 + 1) n (by simp; omega) (by simp; omega) h3 (by omega) (by omega)
    have e : W ++ (M ++ [r]) ++ r :: rest = W ++ M ++ r :: r :: rest := by simp
    rw [e] at g1
    have hd : ddt r (r :: rest) = ddt r rest := by simp [ddt]
    rw [hd]
    refine ⟨g, (iterN_inl ?_).trans g1, g2, g3⟩
    have hb : (r != r) = false := by simp
    simp only [compactI_s14, hlt, decide_true, cond_true, cond_false, i1, i2, w1, p1, p2, l1, l2, Option.bind_some, hb, w2]
   ·have hd : ddt u (r :: rest) = r :: ddt r rest := by simp [ddt, hc]
    rw [hd]
    obtain ⟨h, T, hT⟩ : ∃ h T, M ++ [u] = h :: T := by cases M with | nil => exact ⟨u, [], rfl⟩ | cons m M => exact ⟨m, M ++ [u], rfl⟩
    have hTl : T.length = M.length := by have := congrArg List.length hT; simp at this; omega
    have eg : W ++ M ++ u :: r :: rest = W ++ h :: (T ++ r :: rest) := by
     rw [show W ++ M ++ u :: r :: rest = W ++ ((M ++ [u]) ++ r :: rest) by simp, hT]; simp
    have l3 : lk (W ++ M ++ u :: r :: rest) ((W.length : Nat) : Int) = some h := by rw [eg]; exact lk_mid
    have hset : (W ++ M ++ u :: r :: rest).set ((W.length : Nat) : Int).toNat r = (W ++ [r]) ++ T ++ r :: rest := by
     rw [eg, Int.toNat_natCast, List.set_append_right _ _ (Nat.le_refl _)]; simp
    obtain ⟨g, g1, g2, g3⟩ := ih r (W ++ [r]) T (k2 + 1) n (by simp; omega) (by simp; omega) h3 (by omega) (by omega)
    have e2 : (W ++ [r]) ++ ddt r rest = W ++ r :: ddt r rest := by simp
    rw [e2] at g1 g2
    refine ⟨g, (iterN_inl ?_).trans g1, g2, g3⟩
    have hb : (r != u) = true := by simp [hc]
    have w3 : IntKind.i64.wrap (((W.length : Nat) : Int) + 1) = (((W ++ [r]).length : Nat) : Int) := w_mid (by omega)
    simp only [compactI_s14, hlt, decide_true, cond_true, i1, i2, w1, p1, p2, l1, l2, l3, Option.bind_some, hb, w2, w3, hset]
theorem phase1 : ∀ (rest : List Int) (p : Int) (pre : List Int) (n : Nat), pre.length + rest.length ≤ 100000000 → rest.length < n →
   ∃ y, iterN (fun x => compactI_s4 x.1 x.2.1) n (pre ++ p :: rest, (((pre.length + 1 : Nat) : Int), ())) = some y ∧
    (y = .inl (pre ++ p :: ddt p rest, ()) ∨ y = .inr (pre ++ p :: ddt p rest, ())) := by
  intro rest
  induction rest with
  | nil =>
   intro p pre n h1 hn
   obtain ⟨n, rfl⟩ := succ_of hn
   have hlt : ¬ ((pre.length + 1 : Nat) : Int) < ((pre ++ [p]).length : Int) := by simp
   refine ⟨_, iterN_inr ?_, .inr rfl⟩
   simp only [compactI_s4, hlt, decide_false, cond_false, ddt, Option.bind_some]
  | cons q rest ih =>
   intro p pre n h1 hn
   simp only [List.length_cons] at h1 hn
   obtain ⟨n, rfl⟩ := succ_of hn
   have hlen : (pre ++ p :: q :: rest).length = pre.length + rest.length + 2 := by simp; omega
   have hlt : ((pre.length + 1 : Nat) : Int) < ((pre ++ p :: q :: rest).length : Int) := by rw [hlen]; omega
   have l1 : lk (pre ++ p :: q :: rest) ((pre.length + 1 : Nat) : Int) = some q := lk_idx (by rw [List.getElem?_append_right (by omega)]; simp)
   have w1 : IntKind.i64.wrap (((pre.length + 1 : Nat) : Int) - 1) = ((pre.length : Nat) : Int) := w_pred (by omega)
   have l2 : lk (pre ++ p :: q :: rest) ((pre.length : Nat) : Int) = some p := lk_mid
   by_cases hc : q = p
   ·subst hc
    have hb : (q == q) = true := by simp
    have hin : inB ((pre.length + 1 : Nat) : Int) ((pre ++ q :: q :: rest).length : Int) (pre ++ q :: q :: rest).length = true := by
     simp only [inB, hlen, Bool.and_eq_true, decide_eq_true_eq]; omega
    have hL : ((((pre ++ q :: q :: rest).length : Nat) : Int) - ((pre.length + 1 : Nat) : Int)).toNat = rest.length + 1 := by rw [hlen]; omega
    obtain ⟨g, g1, g2, g3⟩ := phase2 (pre.length + 1) (rest.length + 1) rest q (pre ++ [q]) [] 1 fuN (by simp; omega) (by simp) (by omega) (by omega) (by have := fuN_le; omega)
    have eg : (pre ++ [q]) ++ [] ++ q :: rest = pre ++ q :: q :: rest := by simp
    rw [eg] at g1
    have ew : (((pre ++ [q]).length : Nat) : Int) = ((pre.length + 1 : Nat) : Int) := by simp
    rw [ew] at g1
    have hd : ddt q (q :: rest) = ddt q rest := by simp [ddt]
    have er : pre ++ q :: ddt q (q :: rest) = (pre ++ [q]) ++ ddt q rest := by rw [hd]; simp
    rw [er]
    generalize hR : (pre ++ [q]) ++ ddt q rest = R at g1 g2 ⊢
    have hRl : R.length ≤ pre.length + 1 + (rest.length + 1) := by
     rw [← hR]; have := ddt_length rest q; simp; omega
    have hin2 : inB ((R.length : Nat) : Int) (g.length : Int) g.length = true := by
     simp only [inB, g3, Bool.and_eq_true, decide_eq_true_eq]; omega
    have hRg : R.length ≤ g.length := by omega
    have hcl : (clrL g R.length (g.length - R.length) (0 : Int)).length = g.length := by simp [clrL]; omega
    have hin3 : inB (0 : Int) ((R.length : Nat) : Int) (clrL g R.length (g.length - R.length) (0 : Int)).length = true := by
     rw [hcl]; simp only [inB, Bool.and_eq_true, decide_eq_true_eq]; omega
    have hfin : (((clrL g R.length (g.length - R.length) (0 : Int))).drop (0 : Int).toNat).take (((R.length : Nat) : Int) - 0).toNat = R := by
     have e1 : (((R.length : Nat) : Int) - 0).toNat = R.length := by omega
     rw [e1]
     simp only [Int.toNat_zero, List.drop_zero, clrL]
     rw [List.append_assoc, List.take_append_of_le_length (by simp [g3]; omega), List.take_take, Nat.min_self]
     exact g2
    have hsub : ((((g.length : Nat) : Int)) - ((R.length : Nat) : Int)).toNat = g.length - R.length := by omega
    refine ⟨_, iterN_inr ?_, .inl rfl⟩
    have hone : ((1 : Nat) : Int) = (1 : Int) := rfl
    rw [hone] at g1
    simp only [compactI_s4, hlt, decide_true, cond_true, l1, w1, l2, Option.bind_some, hb, hin, hL, Int.toNat_natCast, g1, hin2, hsub, hin3, hfin]
   ·have hb : (q == p) = false := by simp [hc]
    have hd : ddt p (q :: rest) = q :: ddt q rest := by simp [ddt, hc]
    obtain ⟨y, h2, h3⟩ := ih q (pre ++ [p]) n (by simp; omega) (by omega)
    rw [← app_mid] at h2
    have w2 : IntKind.i64.wrap (((pre.length + 1 : Nat) : Int) + 1) = (((pre ++ [p]).length + 1 : Nat) : Int) := by rw [len_succ]; exact w_succ (by omega)
    have e : (pre ++ [p]) ++ q :: ddt q rest = pre ++ p :: q :: ddt q rest := by simp
    rw [e] at h3
    rw [hd]
    refine ⟨y, (iterN_inl ?_).trans h2, h3⟩
    simp only [compactI_s4, hlt, decide_true, cond_true, cond_false, l1, w1, l2, Option.bind_some, hb, w2]
theorem compactI_is (l : List Int) (h : l.length ≤ 100000000) : compactI l = some ((), (cpt l, ())) := by
  cases l with
  | nil => rfl
  | cons x l =>
   cases l with
   | nil => rfl
   | cons y l =>
    simp only [List.length_cons] at h
    have hlt : ¬ (((x :: y :: l).length : Nat) : Int) < 2 := by simp; omega
    obtain ⟨z, h1, h2⟩ := phase1 (y :: l) x [] fuN (by simp; omega) (by have := fuN_le; simp; omega)
    have h1' : iterN (fun x => compactI_s4 x.1 x.2.1) fuN (x :: y :: l, ((1 : Int), ())) = some z := h1
    simp only [compactI, hlt, decide_false, cond_false, Option.bind_some, h1']
    rcases h2 with rfl | rfl <;> rfl
theorem ddt_spec : ∀ (l : List Int) (u : Int), (u :: l).Pairwise (· ≤ ·) → (u :: ddt u l).Pairwise (· < ·) ∧ ∀ y, y ∈ u :: ddt u l ↔ y ∈ u :: l
  | [], u, _ => by simp [ddt]
  | r :: l, u, h => by
   obtain ⟨h1, h2⟩ := List.pairwise_cons.1 h
   simp only [ddt]
   split
   ·rename_i e
    subst e
    obtain ⟨h3, h4⟩ := ddt_spec l r h2
    refine ⟨h3, fun y => ?_⟩
    rw [h4]; simp
   ·rename_i e
    obtain ⟨h3, h4⟩ := ddt_spec l r h2
    refine ⟨List.pairwise_cons.2 ⟨fun y hy => ?_, h3⟩, fun y => ?_⟩
    ·have hy' := (h4 y).1 hy
     have hur := h1 r (by simp)
     rcases List.mem_cons.1 hy' with rfl | hy'
     ·omega
     ·have := (List.pairwise_cons.1 h2).1 y hy'
      omega
    ·rw [List.mem_cons, h4]; exact List.mem_cons.symm
theorem cpt_spec {l : List Int} (h : l.Pairwise (· ≤ ·)) : (cpt l).Pairwise (· < ·) ∧ ∀ y, y ∈ cpt l ↔ y ∈ l := by
  cases l with
  | nil => exact ⟨List.Pairwise.nil, fun y => Iff.rfl⟩
  | cons x l => exact ddt_spec l x h
abbrev HH := Option (Nat × Nat × Nat)
abbrev Pl := List (Option (List Int))
abbrev Pst := Int × List Int
abbrev Rw := Int × HH
abbrev Tr := Int × Nat × List Int
theorem srt_ext {α : Type} {lt : α → α → Prop} (irr : ∀ a, ¬ lt a a) (tr : ∀ a b c, lt a b → lt b c → lt a c) : ∀ {a b : List α}, a.Pairwise lt → b.Pairwise lt → (∀ x, x ∈ a ↔ x ∈ b) → a = b
  | [], [], _, _, _ => rfl
  | [], y :: b, _, _, h => by have := (h y).2 (by simp); cases this
  | x :: a, [], _, _, h => by have := (h x).1 (by simp); cases this
  | x :: a, y :: b, ha, hb, h => by
   obtain ⟨a1, a2⟩ := List.pairwise_cons.1 ha
   obtain ⟨b1, b2⟩ := List.pairwise_cons.1 hb
   have hxy : x = y := by
    rcases List.mem_cons.1 ((h x).1 (by simp)) with e | e
    ·exact e
    ·rcases List.mem_cons.1 ((h y).2 (by simp)) with e' | e'
     ·exact e'.symm
     ·exact absurd (tr _ _ _ (a1 y e') (b1 x e)) (irr x)
   subst hxy
   rw [srt_ext irr tr a2 b2 fun z => ⟨fun hz => ?_, fun hz => ?_⟩]
   ·rcases List.mem_cons.1 ((h z).1 (List.mem_cons_of_mem _ hz)) with e | e
    ·subst e; exact absurd (a1 z hz) (irr z)
    ·exact e
   ·rcases List.mem_cons.1 ((h z).2 (List.mem_cons_of_mem _ hz)) with e | e
    ·subst e; exact absurd (b1 z hz) (irr z)
    ·exact e
def M0 (l : List Pst) (d n : Int) : Prop := ∃ p ∈ l, p.1 = d ∧ n ∈ p.2
def M (l : List Pst) (d n : Int) : Prop := 0 ≤ d ∧ 0 ≤ n ∧ M0 l d n
structure Nm (R : List Pst) : Prop where
  docs : R.Pairwise fun p q => p.1 < q.1
  row : ∀ p ∈ R, 0 ≤ p.1 ∧ p.2 ≠ [] ∧ p.2.Pairwise (· < ·) ∧ ∀ n ∈ p.2, 0 ≤ n
theorem doc_eq {R : List Pst} (h : R.Pairwise fun p q => p.1 < q.1) : ∀ {p q}, p ∈ R → q ∈ R → p.1 = q.1 → p = q := by
  induction R with
  | nil => intro p q hp; cases hp
  | cons x R ih =>
   obtain ⟨h1, h2⟩ := List.pairwise_cons.1 h
   intro p q hp hq e
   rcases List.mem_cons.1 hp with rfl | hp' <;> rcases List.mem_cons.1 hq with rfl | hq'
   ·rfl
   ·have := h1 _ hq'; omega
   ·have := h1 _ hp'; omega
   ·exact ih h2 hp' hq' e
theorem nm_sub {R R' : List Pst} (h : Nm R) (h' : Nm R') (hm : ∀ d n, M0 R d n ↔ M0 R' d n) {p : Pst} (hp : p ∈ R) : p ∈ R' := by
  obtain ⟨_, r2, r3, _⟩ := h.row p hp
  obtain ⟨n, hn⟩ := List.exists_mem_of_ne_nil _ r2
  obtain ⟨p', hp', e, hn'⟩ := (hm p.1 n).1 ⟨p, hp, rfl, hn⟩
  have : p.2 = p'.2 := by
   refine srt_ext (lt := (· < ·)) (fun a => by omega) (fun a b c h1 h2 => by omega) r3 (h'.row p' hp').2.2.1 fun k => ⟨fun hk => ?_, fun hk => ?_⟩
   ·obtain ⟨p2, g1, g2, g3⟩ := (hm p.1 k).1 ⟨p, hp, rfl, hk⟩
    rw [doc_eq h'.docs hp' g1 (by omega)]; exact g3
   ·obtain ⟨p2, g1, g2, g3⟩ := (hm p.1 k).2 ⟨p', hp', e, hk⟩
    rw [doc_eq h.docs hp g1 (by omega)]; exact g3
  have : p = p' := Prod.ext e.symm this
  rw [this]; exact hp'
theorem nm_ext {R R' : List Pst} (h : Nm R) (h' : Nm R') (hm : ∀ d n, M0 R d n ↔ M0 R' d n) : R = R' :=
  srt_ext (lt := fun p q : Pst => p.1 < q.1) (fun a => by omega) (fun a b c h1 h2 => by omega) h.docs h'.docs fun p => ⟨nm_sub h h' hm, nm_sub h' h fun d n => (hm d n).symm⟩
structure IsN (l R : List Pst) : Prop where
  nm : Nm R
  mem : ∀ d n, M0 R d n ↔ M l d n
def rwT (t : Tr) : Rw := (t.1, some (t.2.1, 0, t.2.2.length))
def pst (t : Tr) : Pst := (t.1, t.2.2)
structure OwnT (q : Pl) (T : List Tr) : Prop where
  at' : ∀ t ∈ T, q[t.2.1]? = some (some t.2.2)
  nd : (T.map (·.2.1)).Nodup
def trs : Nat → List Pst → List Tr
  | _, [] => []
  | k, p :: A => (p.1, k, p.2) :: trs (k + 1) A
def objs (A : List Pst) : Pl := A.map fun p => some p.2
def hnd (k : Nat) (A : List Pst) : List Rw := (trs k A).map rwT
def res (A : List Pst) : (Pl × Unit) × List Rw := ((objs A, ()), hnd 0 A)
theorem trs_pst : ∀ (A : List Pst) (k : Nat), (trs k A).map pst = A
  | [], _ => rfl
  | p :: A, k => by simp [trs, pst, trs_pst A]
theorem trs_idx : ∀ (A : List Pst) (k : Nat), (trs k A).map (·.2.1) = List.range' k A.length
  | [], _ => rfl
  | p :: A, k => by simp [trs, trs_idx A, List.range'_succ]
theorem trs_get : ∀ (A : List Pst) (k : Nat) {t : Tr}, t ∈ trs k A → ∃ i p, A[i]? = some p ∧ t = (p.1, k + i, p.2)
  | [], _, t, h => by cases h
  | p :: A, k, t, h => by
   rcases List.mem_cons.1 h with rfl | h
   ·exact ⟨0, p, rfl, rfl⟩
   ·obtain ⟨i, q, h1, h2⟩ := trs_get A (k + 1) h
    exact ⟨i + 1, q, h1, by rw [h2]; simp; omega⟩
theorem own_trs (q0 : Pl) (A : List Pst) : OwnT (q0 ++ objs A) (trs q0.length A) := by
  refine ⟨fun t ht => ?_, by rw [trs_idx]; exact List.nodup_range'⟩
  obtain ⟨i, p, h1, rfl⟩ := trs_get A _ ht
  rw [List.getElem?_append_right (by simp)]
  simp [objs, h1]
theorem shH_hnd (j : Nat) : ∀ (A : List Pst) (k : Nat), (hnd k A).map (fun u => (u.1, shH j u.2)) = hnd (k + j) A
  | [], _ => rfl
  | p :: A, k => by
   have := shH_hnd j A (k + 1)
   simp only [hnd, trs, List.map_cons, rwT, shH] at this ⊢
   rw [this, show k + 1 + j = k + j + 1 by omega]
theorem shL_id {q l : Pl} : shL' q (fun (u : Int) => u) l = l := by
  unfold shL'
  have : (fun o : Option (List Int) => o.map fun xs => xs.map fun (u : Int) => u) = id := by funext o; cases o <;> simp
  rw [this, List.map_id]
theorem hget_own {q : Pl} {T : List Tr} (h : OwnT q T) {t : Tr} (ht : t ∈ T) : hget q (rwT t).2 = some t.2.2 := by
  simp only [rwT, hget, h.at' t ht]
  simp
theorem hok_own {q : Pl} {T : List Tr} (h : OwnT q T) {t : Tr} (ht : t ∈ T) : hok q (rwT t).2 = true := by
  unfold hok; rw [hget_own h ht]
theorem hgetD_own {q : Pl} {T : List Tr} (h : OwnT q T) {t : Tr} (ht : t ∈ T) : hgetD q (rwT t).2 = t.2.2 := by
  unfold hgetD; rw [hget_own h ht]
theorem all_own {q : Pl} {T : List Tr} (h : OwnT q T) : List.all (T.map rwT) (fun u => hok q u.2) = true := by
  rw [List.all_eq_true]
  intro u hu
  obtain ⟨t, ht, rfl⟩ := List.mem_map.1 hu
  exact hok_own h ht
theorem map_own {q : Pl} {T : List Tr} (h : OwnT q T) : List.map (fun u => (u.1, hgetD q u.2)) (T.map rwT) = T.map pst := by
  rw [List.map_map]
  refine List.map_congr_left fun t ht => ?_
  simp only [Function.comp_apply, hgetD_own h ht]
  rfl
theorem hsV_rows : ∀ T : List Tr, hsV 0 (.vec (.st (.pair (.int IntKind.i64) (.psl 0)))) (T.map rwT) = T.map (·.2.1)
  | [] => rfl
  | t :: T => by
   have := hsV_rows T
   show [] ++ [t.2.1] ++ hsV 0 (.vec (.st (.pair (.int IntKind.i64) (.psl 0)))) (T.map rwT) = _
   rw [this]; rfl
theorem nodup_noDup : ∀ {l : List Nat}, l.Nodup → noDup l = true
  | [], _ => rfl
  | x :: l, h => by
   obtain ⟨h1, h2⟩ := List.nodup_cons.1 h
   simp [noDup, h1, nodup_noDup h2]
theorem idx_trs : ∀ (T : List Tr) (k : Nat) (f : Nat → Nat), (∀ i t, T[i]? = some t → f t.2.1 = k + i) → T.map (fun t => (t.1, (some (f t.2.1, 0, t.2.2.length) : HH))) = hnd k (T.map pst)
  | [], _, _, _ => rfl
  | t :: T, k, f, h => by
   have h0 := h 0 t rfl
   simp only [List.map_cons, hnd, trs, pst, rwT]
   rw [h0]
   exact congrArg _ (idx_trs T (k + 1) f fun i t' hi => by rw [h (i + 1) t' hi]; omega)
theorem cn_is {q : Pl} {T : List Tr} (h : OwnT q T) (hl : ∀ i x, q[i]? = some (some x) → i ∈ T.map (·.2.1)) :
   cnP [(0, (.int IntKind.i64))] (.vec (.st (.pair (.int IntKind.i64) (.psl 0)))) (q, ()) (T.map rwT) = res (T.map pst) := by
  have hc : cnOk q (T.map (·.2.1)) = true := by
   unfold cnOk
   rw [nodup_noDup h.nd, Bool.true_and, List.all_eq_true]
   intro i hi
   cases hv : liveAt q i with
   | false => rfl
   | true =>
    unfold liveAt at hv
    split at hv
    ·rename_i x hx
     have := hl i x hx
     simp only [Bool.not_true, Bool.false_or, List.contains_eq_mem, decide_eq_true_eq]
     exact this
    ·cases hv
  have hp : (T.map (·.2.1)).map (poolAt q) = objs (T.map pst) := by
   unfold objs
   rw [List.map_map, List.map_map]
   refine List.map_congr_left fun t ht => ?_
   exact poolAt_some.2 (h.at' t ht)
  have hr : ∀ f : Nat → Nat, rnV 0 f (.vec (.st (.pair (.int IntKind.i64) (.psl 0)))) (T.map rwT) = T.map (fun t => (t.1, (some (f t.2.1, 0, t.2.2.length) : HH))) := fun f => by
   show List.map (rnV 0 f (.st (.pair (.int IntKind.i64) (.psl 0)))) (T.map rwT) = _
   rw [List.map_map]
   rfl
  have hi : T.map (fun t => (t.1, (some ((T.map (·.2.1)).idxOf t.2.1, 0, t.2.2.length) : HH))) = hnd 0 (T.map pst) := idx_trs T 0 (fun i => (T.map (·.2.1)).idxOf i) fun i t ht => by
   have e : (T.map (·.2.1))[i]? = some t.2.1 := by rw [List.getElem?_map, ht]; rfl
   have := nodup_get h.nd (idxOf_get (List.mem_of_getElem? e)) e
   omega
  show (bif (Ty.int IntKind.i64).pls.isEmpty && (rnOk (.vec (.st (.pair (.int IntKind.i64) (.psl 0)))) && cnOk q (hsV 0 (.vec (.st (.pair (.int IntKind.i64) (.psl 0)))) (T.map rwT))) then
   (((hsV 0 (.vec (.st (.pair (.int IntKind.i64) (.psl 0)))) (T.map rwT)).map (poolAt q), ()), rnV 0 (fun i => (hsV 0 (.vec (.st (.pair (.int IntKind.i64) (.psl 0)))) (T.map rwT)).idxOf i) (.vec (.st (.pair (.int IntKind.i64) (.psl 0)))) (T.map rwT))
   else ((q, ()), T.map rwT)) = _
  rw [hsV_rows]
  have hb : ((Ty.int IntKind.i64).pls.isEmpty && (rnOk (.vec (.st (.pair (.int IntKind.i64) (.psl 0)))) && cnOk q (T.map (·.2.1)))) = true := by rw [hc]; rfl
  rw [hb, cond_true, hp]
  exact Prod.ext rfl ((hr _).trans hi)
end Go.Vu.Mg
namespace Go.Vu.Mg
open Go Go.Vu Go.Sort Go.Vu.Srt
def Row (l : List Int) : Prop := l ≠ [] ∧ l.Pairwise (· < ·)
def Live (q : Pl) (T : List Tr) : Prop := ∀ i x, q[i]? = some (some x) → i ∈ T.map (·.2.1)
theorem idx_lt {q : Pl} {T : List Tr} (h : OwnT q T) {t : Tr} (ht : t ∈ T) : t.2.1 < q.length := (List.getElem?_eq_some_iff.1 (h.at' t ht)).1
theorem OwnT.perm {q : Pl} {T T' : List Tr} (h : OwnT q T) (hp : T.Perm T') : OwnT q T' :=
  ⟨fun t ht => h.at' t (hp.mem_iff.2 ht), ((hp.map _).nodup_iff).1 h.nd⟩
theorem Live.perm {q : Pl} {T T' : List Tr} (h : Live q T) (hp : T.Perm T') : Live q T' := fun i x hx => ((hp.map _).mem_iff).1 (h i x hx)
theorem own_step {q : Pl} {D rest : List Tr} {t : Tr} (h : OwnT q (D ++ t :: rest)) (v : Int) (u : List Int) : OwnT (q.set t.2.1 none ++ [some u]) (D ++ (v, q.length, u) :: rest) := by
  have hnd := h.nd
  simp only [List.map_append, List.map_cons] at hnd
  have hlt : ∀ x ∈ D ++ t :: rest, x.2.1 < q.length := fun x hx => idx_lt h hx
  have hne : ∀ x, x ∈ D ∨ x ∈ rest → x.2.1 ≠ t.2.1 := by
   intro x hx e
   rw [List.nodup_append] at hnd
   obtain ⟨h1, h2, h3⟩ := hnd
   rcases hx with hx | hx
   ·exact h3 x.2.1 (List.mem_map_of_mem hx) t.2.1 (by simp) e
   ·exact (List.nodup_cons.1 h2).1 (by rw [← e]; exact List.mem_map_of_mem hx)
  refine ⟨fun x hx => ?_, ?_⟩
  ·have old : x ∈ D ∨ x ∈ rest → (q.set t.2.1 none ++ [some u])[x.2.1]? = some (some x.2.2) := fun hx => by
    have hm : x ∈ D ++ t :: rest := by rcases hx with hx | hx <;> simp [hx]
    rw [List.getElem?_append_left (by rw [List.length_set]; exact hlt x hm), List.getElem?_set_ne (Ne.symm (hne x hx))]
    exact h.at' x hm
   rcases List.mem_append.1 hx with hx | hx
   ·exact old (.inl hx)
   ·rcases List.mem_cons.1 hx with rfl | hx
    ·simp
    ·exact old (.inr hx)
  ·simp only [List.map_append, List.map_cons]
   rw [List.nodup_append] at hnd ⊢
   obtain ⟨h1, h2, h3⟩ := hnd
   refine ⟨h1, List.nodup_cons.2 ⟨fun hm => ?_, (List.nodup_cons.1 h2).2⟩, fun a ha b hb => ?_⟩
   ·obtain ⟨x, hx, e⟩ := List.mem_map.1 hm
    have := hlt x (by simp [hx]); omega
   ·rcases List.mem_cons.1 hb with rfl | hb
    ·obtain ⟨x, hx, rfl⟩ := List.mem_map.1 ha
     have := hlt x (by simp [hx]); omega
    ·exact h3 a ha b (List.mem_cons_of_mem _ hb)
theorem live_step {q : Pl} {D rest : List Tr} {t : Tr} (h : Live q (D ++ t :: rest)) (v : Int) (u : List Int) : Live (q.set t.2.1 none ++ [some u]) (D ++ (v, q.length, u) :: rest) := by
  intro i x hx
  simp only [List.map_append, List.map_cons, List.mem_append, List.mem_cons]
  rcases Nat.lt_or_ge i q.length with hi | hi
  ·rw [List.getElem?_append_left (by rw [List.length_set]; exact hi)] at hx
   by_cases he : t.2.1 = i
   ·subst he; rw [List.getElem?_set_self hi] at hx; cases hx
   ·rw [List.getElem?_set_ne he] at hx
    have := h i x hx
    simp only [List.map_append, List.map_cons, List.mem_append, List.mem_cons] at this
    rcases this with g | g | g
    ·exact .inl g
    ·exact absurd g.symm he
    ·exact .inr (.inr g)
  ·rw [List.getElem?_append_right (by rw [List.length_set]; exact hi), List.length_set] at hx
   have : i - q.length = 0 := by
    rcases Nat.eq_zero_or_pos (i - q.length) with e | e
    ·exact e
    ·rw [List.getElem?_eq_none (by simp; omega)] at hx; cases hx
   exact .inr (.inl (by omega))
theorem room32 {n : Nat} (h : n ≤ 1000000000) : roomOk n 32 = true := by
  unfold roomOk
  simp only [decide_eq_true_eq]
  omega
theorem list_round {D rest : List Tr} {t : Tr} {q : Pl} {R : List Rw} (h : OwnT q (D ++ t :: rest)) (hb : D.length ≤ 10000000) (ht : t.2.2.length ≤ 100000000) :
   ∃ u, u.Pairwise (· < ·) ∧ (∀ n, n ∈ u ↔ n ∈ t.2.2) ∧ list_s1 (D.map rwT) (R, some (rwT t)) q = some (.inl (((((D ++ [(t.1, q.length, u)]).map rwT), ((R, some (rwT t)), ()))), ((q.set t.2.1 none ++ [some u]), ()))) := by
  obtain ⟨s, e1, e2, e3⟩ := sortI_spec t.2.2 ht
  have hl : s.length = t.2.2.length := e2.length_eq
  obtain ⟨c1, c2⟩ := cpt_spec e3
  refine ⟨cpt s, c1, fun n => (c2 n).trans e2.mem_iff, ?_⟩
  have hm : t ∈ D ++ t :: rest := by simp
  have hlt := idx_lt h hm
  have k1 : hok q (rwT t).2 = true := hok_own h hm
  have k2 : hall q (rwT t).2 = true := by
   simp only [rwT, hall, h.at' t hm, Nat.beq_refl, Bool.and_self]
  have k3 : hgetD q (rwT t).2 = t.2.2 := hgetD_own h hm
  have hs : ∀ o, hset q (rwT t).2 o = q.set t.2.1 o := fun o => rfl
  have g0 : hget (q.set t.2.1 (some s)) (rwT t).2 = some s := by
   simp only [rwT, hget, List.getElem?_set_self hlt, List.drop_zero, ← hl, List.take_length]
  have k4 : hok (q.set t.2.1 (some s)) (rwT t).2 = true := by unfold hok; rw [g0]
  have k5 : hgetD (q.set t.2.1 (some s)) (rwT t).2 = s := by unfold hgetD; rw [g0]
  have k6 : hset (q.set t.2.1 (some s)) (rwT t).2 none = q.set t.2.1 none := by
   show (q.set t.2.1 (some s)).set t.2.1 none = _
   rw [List.set_set]
  have k7 : compactI s = some ((), (cpt s, ())) := compactI_is s (by omega)
  have hr : roomOk ((D.map rwT).length + [(((rwT t).1, some ((q.set t.2.1 none).length, 0, (cpt s).length)) : Rw)].length) 32 = true := room32 (by simp; omega)
  simp only [list_s1, Option.isSome_some, cond_true, Option.bind_some, k1, k2, k3, e1, hs, k4, k5, k6, k7, Bool.and_true, Bool.and_self, hr]
  simp [rwT]
abbrev slL : List (Nat × Ty) := [(3, (.vec (.st (.pair (.int IntKind.i64) (.psl 0))))), (7, (.mit IntKind.i64 (.psl 0)))]
abbrev plL : List (Nat × Ty) := [(0, (.int IntKind.i64))]
noncomputable abbrev gL (x : XDen slL plL) := list_s1 x.1.1 x.1.2.1 x.2.1
theorem next_cons (D : List Rw) (t : Rw) (R : List Rw) (c : Option Rw) (q : Pl) : nextX (sl := slL) 7 plL ((D, ((t :: R, c), ())), (q, ())) = ((D, ((R, some t), ())), (q, ())) := rfl
theorem next_nil (D : List Rw) (c : Option Rw) (q : Pl) : nextX (sl := slL) 7 plL ((D, (([], c), ())), (q, ())) = ((D, (([], none), ())), (q, ())) := rfl
theorem list_loop : ∀ (T D : List Tr) (q : Pl) (c : Option Rw) (n : Nat), OwnT q (D ++ T) → Live q (D ++ T) → D.length + T.length ≤ 10000000 → (∀ t ∈ T, t.2.2.length ≤ 100000000 ∧ t.2.2 ≠ []) → (∀ t ∈ D, Row t.2.2) → T.length < n →
   ∃ D2 q2, iterN (fun x => gL (nextX (sl := slL) 7 plL x)) n ((D.map rwT, ((T.map rwT, c), ())), (q, ())) = some ((D2.map rwT, ()), (q2, ())) ∧ OwnT q2 D2 ∧ Live q2 D2 ∧ (∀ t ∈ D2, Row t.2.2) ∧ D2.map (·.1) = (D ++ T).map (·.1) ∧ ∀ d k, (∃ t ∈ D2, t.1 = d ∧ k ∈ t.2.2) ↔ ∃ t ∈ D ++ T, t.1 = d ∧ k ∈ t.2.2
  | [], D, q, c, 0, _, _, _, _, _, hn => by simp at hn
  | [], D, q, c, n + 1, ho, hl, hb, ht, hD, hn => by
   rw [List.append_nil] at ho hl
   refine ⟨D, q, ?_, ho, hl, hD, by simp, by simp⟩
   refine iterN_inr ?_
   rw [List.map_nil, next_nil]
   rfl
  | t :: T, D, q, c, 0, _, _, _, _, _, hn => by simp at hn
  | t :: T, D, q, c, n + 1, ho, hl, hb, ht, hD, hn => by
   simp only [List.length_cons] at hb hn
   obtain ⟨ht1, ht2⟩ := ht t (by simp)
   obtain ⟨u, u1, u2, hu⟩ := list_round (R := T.map rwT) ho (by omega) ht1
   have hne : u ≠ [] := by
    obtain ⟨k, hk⟩ := List.exists_mem_of_ne_nil _ ht2
    exact List.ne_nil_of_mem ((u2 k).2 hk)
   have ho' := own_step ho t.1 u
   have hl' := live_step hl t.1 u
   have e : D ++ (t.1, q.length, u) :: T = (D ++ [(t.1, q.length, u)]) ++ T := by simp
   rw [e] at ho' hl'
   obtain ⟨D2, q2, i1, i2, i3, i4, i5, i6⟩ := list_loop T (D ++ [(t.1, q.length, u)]) _ (some (rwT t)) n ho' hl' (by simp; omega) (fun x hx => ht x (by simp [hx])) (fun x hx => by
    rcases List.mem_append.1 hx with hx | hx
    ·exact hD x hx
    ·simp only [List.mem_singleton] at hx; subst hx; exact ⟨hne, u1⟩) (by omega)
   refine ⟨D2, q2, ?_, i2, i3, i4, by rw [i5]; simp, fun d k => (i6 d k).trans ?_⟩
   ·rw [← i1]
    refine iterN_inl ?_
    rw [List.map_cons, next_cons]
    exact hu
   ·simp only [List.append_assoc, List.mem_append, List.mem_cons, List.not_mem_nil, or_false]
    constructor
    ·rintro ⟨x, hx, h1, h2⟩
     rcases hx with hx | hx | hx
     ·exact ⟨x, .inl hx, h1, h2⟩
     ·subst hx; exact ⟨t, .inr (.inl rfl), h1, (u2 k).1 h2⟩
     ·exact ⟨x, .inr (.inr hx), h1, h2⟩
    ·rintro ⟨x, hx, h1, h2⟩
     rcases hx with hx | hx | hx
     ·exact ⟨x, .inl hx, h1, h2⟩
     ·subst hx; exact ⟨_, .inr (.inl rfl), h1, (u2 k).2 h2⟩
     ·exact ⟨x, .inr (.inr hx), h1, h2⟩
theorem perm_map_inv {α β : Type} {f : α → β} : ∀ {l l' : List β}, l.Perm l' → ∀ T : List α, l = T.map f → ∃ T', l' = T'.map f ∧ T.Perm T' := by
  intro l l' h
  induction h with
  | nil => intro T hT; exact ⟨T, hT, .refl _⟩
  | cons x h ih =>
   intro T hT
   cases T with
   | nil => cases hT
   | cons t T =>
    simp only [List.map_cons, List.cons.injEq] at hT
    obtain ⟨T', h1, h2⟩ := ih T hT.2
    exact ⟨t :: T', by simp [h1, hT.1], h2.cons t⟩
  | swap x y l =>
   intro T hT
   match T, hT with
   | t :: t' :: T, hT =>
    simp only [List.map_cons, List.cons.injEq] at hT
    exact ⟨t' :: t :: T, by simp [hT], .swap t' t T⟩
  | trans h1 h2 ih1 ih2 =>
   intro T hT
   obtain ⟨T1, a1, a2⟩ := ih1 T hT
   obtain ⟨T2, b1, b2⟩ := ih2 T1 a1
   exact ⟨T2, b1, a2.trans b2⟩
theorem list_tail {D2 : List Tr} {q2 : Pl} (ho : OwnT q2 D2) (hl : Live q2 D2) (hr : ∀ t ∈ D2, Row t.2.2) (hd : (D2.map (·.1)).Nodup) (hn : ∀ t ∈ D2, 0 ≤ t.1 ∧ ∀ k ∈ t.2.2, 0 ≤ k) (hlen : D2.length ≤ 10000000) :
   ∃ R, ((sortP (D2.map rwT)).bind fun r8 => some ((), ((cnP [(0, (.int IntKind.i64))] (.vec (.st (.pair (.int IntKind.i64) (.psl 0)))) (q2, ()) r8.1), ()))) = some ((), (res R, ())) ∧ Nm R ∧ ∀ d k, M0 R d k ↔ ∃ t ∈ D2, t.1 = d ∧ k ∈ t.2.2 := by
  obtain ⟨s, e1, e2, e3⟩ := sortP_spec (D2.map rwT) (by simp; omega)
  obtain ⟨D3, rfl, hp⟩ := perm_map_inv e2.symm D2 rfl
  refine ⟨D3.map pst, ?_, ⟨?_, ?_⟩, ?_⟩
  ·rw [e1, Option.bind_some]
   simp only
   rw [cn_is (ho.perm hp) (hl.perm hp)]
  ·rw [List.pairwise_map] at e3 ⊢
   have hd3 : (D3.map (·.1)).Nodup := ((hp.map _).nodup_iff).1 hd
   have hd3' : D3.Pairwise fun a b => a.1 ≠ b.1 := List.pairwise_map.1 hd3
   exact (e3.and hd3').imp fun {a b} h => by
    have h1 : a.1 ≤ b.1 := h.1
    have h2 := h.2
    show a.1 < b.1
    omega
  ·intro p hp'
   obtain ⟨t, ht, rfl⟩ := List.mem_map.1 hp'
   have ht := hp.mem_iff.2 ht
   exact ⟨(hn t ht).1, (hr t ht).1, (hr t ht).2, (hn t ht).2⟩
  ·intro d k
   unfold M0
   constructor
   ·rintro ⟨p, hp', h1, h2⟩
    obtain ⟨t, ht, rfl⟩ := List.mem_map.1 hp'
    exact ⟨t, hp.mem_iff.2 ht, h1, h2⟩
   ·rintro ⟨t, ht, h1, h2⟩
    exact ⟨pst t, List.mem_map_of_mem (hp.mem_iff.1 ht), h1, h2⟩
theorem list_indep : IndepX (sl := slL) 7 plL gL := by
  intro z z' hs y hy
  obtain ⟨⟨D, ⟨⟨R, c⟩, u⟩⟩, ⟨q, u2⟩⟩ := z
  obtain ⟨⟨D', ⟨⟨R', c'⟩, u'⟩⟩, ⟨q', u2'⟩⟩ := z'
  have h0 : D = D' ∧ c = c' ∧ q = q' := by
   obtain ⟨⟨h1, h2, _⟩, h3⟩ := hs
   exact ⟨h1, h2, (Prod.mk.inj h3).1⟩
  obtain ⟨rfl, rfl, rfl⟩ := h0
  cases c with
  | none => simp [list_s1] at hy
  | some x =>
   simp only [gL, list_s1, Option.isSome_some, cond_true, Option.bind_some] at hy ⊢
   cases h1 : (hok q x.2 && hall q x.2 && true) with
   | false => simp [h1] at hy
   | true =>
    simp only [h1, cond_true] at hy ⊢
    cases h2 : sortI (hgetD q x.2) with
    | none => simp [h2] at hy
    | some r3 =>
     simp only [h2, Option.bind_some] at hy ⊢
     cases h3 : (hok (hset q x.2 (some r3.1)) x.2 && true) with
     | false => simp [h3] at hy
     | true =>
      simp only [h3, cond_true] at hy ⊢
      cases h4 : compactI (hgetD (hset q x.2 (some r3.1)) x.2) with
      | none => simp [h4] at hy
      | some r4 =>
       simp only [h4, Option.bind_some] at hy ⊢
       cases h5 : roomOk (D.length + [(x.1, (some ((hset (hset q x.2 (some r3.1)) x.2 none).length, 0, r4.2.1.length) : HH))].length) 32 with
       | false => rw [h5] at hy; cases hy
       | true =>
        simp only [h5, cond_true, Option.some.injEq, Sum.inl.injEq] at hy ⊢
        subst hy
        exact ⟨rfl, _, rfl, ⟨⟨rfl, rfl, rfl⟩, rfl⟩, rfl⟩
theorem list_is {q : Pl} {T : List Tr} (ho : OwnT q T) (hl : Live q T) (hd : (T.map (·.1)).Nodup) (hn : ∀ t ∈ T, 0 ≤ t.1 ∧ ∀ k ∈ t.2.2, 0 ≤ k) (ht : ∀ t ∈ T, t.2.2.length ≤ 100000000 ∧ t.2.2 ≠ []) (hlen : T.length ≤ 10000000) :
   ∃ R, list ((q, ()), T.map rwT) = some ((), (res R, ())) ∧ Nm R ∧ ∀ d k, M0 R d k ↔ ∃ t ∈ T, t.1 = d ∧ k ∈ t.2.2 := by
  have run : ∀ T', T.Perm T' → ∃ R, (match iterN (fun x => gL (nextX (sl := slL) 7 plL x)) fuN (([], ((T'.map rwT, none), ())), (q, ())) with
    | none => none
    | some y7 => (sortP y7.1.1).bind fun r8 => some ((), ((cnP [(0, (.int IntKind.i64))] (.vec (.st (.pair (.int IntKind.i64) (.psl 0)))) (y7.2.1, ()) r8.1), ()))) = some ((), (res R, ())) ∧ Nm R ∧ ∀ d k, M0 R d k ↔ ∃ t ∈ T, t.1 = d ∧ k ∈ t.2.2 := by
   intro T' hp
   obtain ⟨D2, q2, i1, i2, i3, i4, i5, i6⟩ := list_loop T' [] q none fuN (by simpa using ho.perm hp) (by simpa using hl.perm hp) (by simp [← hp.length_eq]; omega) (fun t h => ht t (hp.mem_iff.2 h)) (fun t h => by cases h) (by have := fuN_le; have := hp.length_eq; omega)
   have i1' : iterN (fun x => gL (nextX (sl := slL) 7 plL x)) fuN (([], ((T'.map rwT, none), ())), (q, ())) = some ((D2.map rwT, ()), (q2, ())) := i1
   rw [i1']
   rw [List.nil_append] at i5
   have hlen2 : D2.length = T'.length := by simpa using congrArg List.length i5
   obtain ⟨R, r1, r2, r3⟩ := list_tail i2 i3 i4 (by rw [i5]; exact ((hp.map _).nodup_iff).1 hd) (fun t h => by
    have hdoc : t.1 ∈ T'.map (·.1) := by rw [← i5]; exact List.mem_map_of_mem h
    obtain ⟨t', h1, h2⟩ := List.mem_map.1 hdoc
    refine ⟨by rw [← h2]; exact (hn t' (hp.mem_iff.2 h1)).1, fun k hk => ?_⟩
    obtain ⟨x, hx, _, hk'⟩ := (i6 t.1 k).1 ⟨t, h, rfl, hk⟩
    exact (hn x (hp.mem_iff.2 (by simpa using hx))).2 k hk') (by have := hp.length_eq; omega)
   refine ⟨R, r1, r2, fun d k => (r3 d k).trans ((i6 d k).trans ?_)⟩
   simp only [List.nil_append]
   exact ⟨fun ⟨t, h, g⟩ => ⟨t, hp.mem_iff.2 h, g⟩, fun ⟨t, h, g⟩ => ⟨t, hp.mem_iff.1 h, g⟩⟩
  obtain ⟨R, r1, r2, r3⟩ := run T (.refl _)
  refine ⟨R, ?_, r2, r3⟩
  show iterM (sl := slL) 7 plL gL fuN (([], ((T.map rwT, none), ())), (q, ())) _ = _
  unfold iterM
  rw [onlyIf_of list_indep]
  refine anyOf_of (x := (([], ((T.map rwT, none), ())), (q, ()))) ⟨⟨rfl, .refl _, rfl, rfl⟩, rfl⟩ fun y hy => ?_
  obtain ⟨⟨D, ⟨⟨L, c⟩, ⟨⟩⟩⟩, ⟨q', ⟨⟩⟩⟩ := y
  have hD : D = [] := hy.1.1.symm
  have hL : (T.map rwT).Perm L := hy.1.2.1
  have hc : c = none := hy.1.2.2.1.symm
  have hq : q' = q := (Prod.mk.inj hy.2).1.symm
  clear hy
  subst hD hc hq
  obtain ⟨T', rfl, hp⟩ := perm_map_inv hL T rfl
  obtain ⟨R', s1, s2, s3⟩ := run T' hp
  rw [nm_ext r2 s2 fun d k => (r3 d k).trans (s3 d k).symm]
  cases hz : iterN (fun x => gL (nextX (sl := slL) 7 plL x)) fuN (([], ((T'.map rwT, none), ())), (q', ())) with
  | none => rw [hz] at s1; cases s1
  | some z =>
   rw [hz] at s1
   exact s1
end Go.Vu.Mg
namespace Go.Vu.Mg
open Go Go.Vu Go.Sort Go.Vu.Srt
def tot (T : List Tr) : Nat := (T.map (·.2.2.length)).sum
structure Inv (q : Pl) (T : List Tr) : Prop where
  own : OwnT q T
  live : Live q T
  nd : (T.map (·.1)).Nodup
  ne : ∀ t ∈ T, t.2.2 ≠ []
  nn : ∀ t ∈ T, 0 ≤ t.1 ∧ ∀ k ∈ t.2.2, 0 ≤ k
def Has (T : List Tr) (d k : Int) : Prop := ∃ t ∈ T, t.1 = d ∧ k ∈ t.2.2
theorem inv_nil : Inv [] [] := ⟨⟨fun t h => (by cases h), List.nodup_nil⟩, fun i x h => (by simp at h), List.nodup_nil, fun t h => (by cases h), fun t h => (by cases h)⟩
theorem len_tot : ∀ {T : List Tr}, (∀ t ∈ T, t.2.2 ≠ []) → T.length ≤ tot T
  | [], _ => Nat.zero_le _
  | t :: T, h => by
   have := len_tot (T := T) fun x hx => h x (by simp [hx])
   have h2 : 0 < t.2.2.length := List.length_pos_iff.2 (h t (by simp))
   simp only [tot, List.length_cons, List.map_cons, List.sum_cons] at this ⊢
   omega
theorem mem_tot : ∀ {T : List Tr} {t : Tr}, t ∈ T → t.2.2.length ≤ tot T
  | x :: T, t, h => by
   simp only [tot, List.map_cons, List.sum_cons]
   rcases List.mem_cons.1 h with rfl | h
   ·omega
   ·have := mem_tot h; simp only [tot] at this; omega
theorem split_doc (d : Int) : ∀ T : List Tr, (∀ t ∈ T, t.1 ≠ d) ∨ ∃ D t rest, T = D ++ t :: rest ∧ t.1 = d ∧ ∀ x ∈ D, x.1 ≠ d
  | [] => .inl fun t h => (by cases h)
  | t :: T => by
   by_cases e : t.1 = d
   ·exact .inr ⟨[], t, T, rfl, e, fun x h => (by cases h)⟩
   ·rcases split_doc d T with h | ⟨D, t', rest, rfl, h1, h2⟩
    ·exact .inl fun x hx => (List.mem_cons.1 hx).elim (fun e' => by rw [e']; exact e) (h x)
    ·exact .inr ⟨t :: D, t', rest, rfl, h1, fun x hx => (List.mem_cons.1 hx).elim (fun e' => by rw [e']; exact e) (h2 x)⟩
theorem mget_none {d : Int} : ∀ {T : List Tr}, (∀ t ∈ T, t.1 ≠ d) → mget (T.map rwT) d = none
  | [], _ => rfl
  | t :: T, h => by
   have h1 : (rwT t).1 ≠ d := h t (by simp)
   simp only [List.map_cons, mget, h1, decide_false, cond_false]
   exact mget_none fun x hx => h x (by simp [hx])
theorem mset_none {d : Int} {x : HH} : ∀ {T : List Tr}, (∀ t ∈ T, t.1 ≠ d) → mset (T.map rwT) d x = T.map rwT ++ [(d, x)]
  | [], _ => rfl
  | t :: T, h => by
   have h1 : (rwT t).1 ≠ d := h t (by simp)
   simp only [List.map_cons, mset, h1, decide_false, cond_false, List.cons_append]
   rw [mset_none fun x hx => h x (by simp [hx])]
theorem mget_some {d : Int} {t : Tr} {rest : List Tr} (ht : t.1 = d) : ∀ {D : List Tr}, (∀ t ∈ D, t.1 ≠ d) → mget ((D ++ t :: rest).map rwT) d = some (rwT t).2
  | [], _ => by
   have h1 : (rwT t).1 = d := ht
   simp only [List.nil_append, List.map_cons, mget, h1, decide_true, cond_true]
  | x :: D, h => by
   have h1 : (rwT x).1 ≠ d := h x (by simp)
   simp only [List.cons_append, List.map_cons, mget, h1, decide_false, cond_false]
   exact mget_some ht fun x hx => h x (by simp [hx])
theorem mset_some {d : Int} {x : HH} {t : Tr} {rest : List Tr} (ht : t.1 = d) : ∀ {D : List Tr}, (∀ t ∈ D, t.1 ≠ d) → mset ((D ++ t :: rest).map rwT) d x = D.map rwT ++ (d, x) :: rest.map rwT
  | [], _ => by
   have h1 : (rwT t).1 = d := ht
   simp only [List.nil_append, List.map_cons, List.map_nil, mset, h1, decide_true, cond_true]
  | y :: D, h => by
   have h1 : (rwT y).1 ≠ d := h y (by simp)
   simp only [List.cons_append, List.map_cons, mset, h1, decide_false, cond_false]
   rw [mset_some ht fun x hx => h x (by simp [hx])]
theorem own_new {q : Pl} {T : List Tr} (h : OwnT q T) (v : Int) (u : List Int) : OwnT (q ++ [some u]) (T ++ [(v, q.length, u)]) := by
  refine ⟨fun x hx => ?_, ?_⟩
  ·rcases List.mem_append.1 hx with hx | hx
   ·rw [List.getElem?_append_left (idx_lt h hx)]; exact h.at' x hx
   ·simp only [List.mem_singleton] at hx; subst hx; simp
  ·simp only [List.map_append, List.map_cons, List.map_nil]
   rw [List.nodup_append]
   refine ⟨h.nd, by simp, fun a ha b hb => ?_⟩
   obtain ⟨x, hx, rfl⟩ := List.mem_map.1 ha
   simp only [List.mem_singleton] at hb
   have := idx_lt h hx; omega
theorem live_new {q : Pl} {T : List Tr} (h : Live q T) (v : Int) (u : List Int) : Live (q ++ [some u]) (T ++ [(v, q.length, u)]) := by
  intro i x hx
  simp only [List.map_append, List.map_cons, List.map_nil, List.mem_append, List.mem_singleton]
  rcases Nat.lt_or_ge i q.length with hi | hi
  ·rw [List.getElem?_append_left hi] at hx; exact .inl (h i x hx)
  ·rw [List.getElem?_append_right hi] at hx
   have : i - q.length = 0 := by
    rcases Nat.eq_zero_or_pos (i - q.length) with e | e
    ·exact e
    ·rw [List.getElem?_eq_none (by simp; omega)] at hx; cases hx
   exact .inr (by omega)
theorem add_is {q : Pl} {T : List Tr} (h : Inv q T) {d n : Int} (hd : 0 ≤ d) (hn : 0 ≤ n) :
   ∃ l9 T', hget q ((mget (T.map rwT) d).getD none) = some l9 ∧ l9.length ≤ tot T ∧
    mset (T.map rwT) d (some ((hset q ((mget (T.map rwT) d).getD none) none).length, 0, (l9 ++ [n]).length)) = T'.map rwT ∧
    Inv (hset q ((mget (T.map rwT) d).getD none) none ++ [some (l9 ++ [n])]) T' ∧ tot T' = tot T + 1 ∧ ∀ d' k, Has T' d' k ↔ Has T d' k ∨ (d' = d ∧ k = n) := by
  rcases split_doc d T with hs | ⟨D, t, rest, rfl, ht, hs⟩
  ·refine ⟨[], T ++ [(d, q.length, [n])], ?_, Nat.zero_le _, ?_, ?_, ?_, ?_⟩
   ·rw [mget_none hs]; rfl
   ·rw [mset_none hs, mget_none hs]
    simp [rwT, hset]
   ·rw [mget_none hs]
    refine ⟨own_new h.own d [n], live_new h.live d [n], ?_, ?_, ?_⟩
    ·simp only [List.map_append, List.map_cons, List.map_nil]
     rw [List.nodup_append]
     refine ⟨h.nd, by simp, fun a ha b hb => ?_⟩
     obtain ⟨x, hx, rfl⟩ := List.mem_map.1 ha
     simp only [List.mem_singleton] at hb
     rw [hb]; exact hs x hx
    ·intro x hx
     rcases List.mem_append.1 hx with hx | hx
     ·exact h.ne x hx
     ·simp only [List.mem_singleton] at hx; subst hx; simp
    ·intro x hx
     rcases List.mem_append.1 hx with hx | hx
     ·exact h.nn x hx
     ·simp only [List.mem_singleton] at hx; subst hx
      exact ⟨hd, fun k hk => by simp only [List.mem_singleton] at hk; omega⟩
   ·simp [tot]
   ·intro d' k
    unfold Has
    constructor
    ·rintro ⟨x, hx, h1, h2⟩
     rcases List.mem_append.1 hx with hx | hx
     ·exact .inl ⟨x, hx, h1, h2⟩
     ·simp only [List.mem_singleton] at hx; subst hx
      simp only [List.mem_singleton] at h2
      exact .inr ⟨h1.symm, h2⟩
    ·rintro (⟨x, hx, h1, h2⟩ | ⟨rfl, rfl⟩)
     ·exact ⟨x, by simp [hx], h1, h2⟩
     ·exact ⟨(d', q.length, [k]), List.mem_append_right _ (by simp), rfl, by simp⟩
  ·have hm : t ∈ D ++ t :: rest := by simp
   have hg : (mget ((D ++ t :: rest).map rwT) d).getD none = (rwT t).2 := by rw [mget_some ht hs]; rfl
   have hset' : hset q (rwT t).2 none = q.set t.2.1 none := rfl
   refine ⟨t.2.2, D ++ (d, q.length, t.2.2 ++ [n]) :: rest, ?_, mem_tot hm, ?_, ?_, ?_, ?_⟩
   ·rw [hg]; exact hget_own h.own hm
   ·rw [hg, mset_some ht hs, hset']
    simp [rwT]
   ·rw [hg, hset']
    refine ⟨own_step h.own d _, live_step h.live d _, ?_, ?_, ?_⟩
    ·have := h.nd
     simp only [List.map_append, List.map_cons, ht] at this ⊢
     exact this
    ·intro x hx
     rcases List.mem_append.1 hx with hx | hx
     ·exact h.ne x (by simp [hx])
     ·rcases List.mem_cons.1 hx with rfl | hx
      ·simp
      ·exact h.ne x (by simp [hx])
    ·intro x hx
     rcases List.mem_append.1 hx with hx | hx
     ·exact h.nn x (by simp [hx])
     ·rcases List.mem_cons.1 hx with rfl | hx
      ·refine ⟨hd, fun k hk => ?_⟩
       rcases List.mem_append.1 hk with hk | hk
       ·exact (h.nn t hm).2 k hk
       ·simp only [List.mem_singleton] at hk; omega
      ·exact h.nn x (by simp [hx])
   ·simp [tot]; omega
   ·intro d' k
    unfold Has
    constructor
    ·rintro ⟨x, hx, h1, h2⟩
     rcases List.mem_append.1 hx with hx | hx
     ·exact .inl ⟨x, by simp [hx], h1, h2⟩
     ·rcases List.mem_cons.1 hx with rfl | hx
      ·rcases List.mem_append.1 h2 with h2 | h2
       ·exact .inl ⟨t, hm, by rw [ht]; exact h1, h2⟩
       ·simp only [List.mem_singleton] at h2
        exact .inr ⟨h1.symm, h2⟩
      ·exact .inl ⟨x, by simp [hx], h1, h2⟩
    ·rintro (⟨x, hx, h1, h2⟩ | ⟨rfl, rfl⟩)
     ·rcases List.mem_append.1 hx with hx | hx
      ·exact ⟨x, by simp [hx], h1, h2⟩
      ·rcases List.mem_cons.1 hx with rfl | hx
       ·exact ⟨_, List.mem_append_right _ (List.mem_cons_self ..), by rw [← ht]; exact h1, by simp [h2]⟩
       ·exact ⟨x, by simp [hx], h1, h2⟩
     ·exact ⟨_, List.mem_append_right _ (List.mem_cons_self ..), rfl, by simp⟩
theorem byDoc_in (l : List Pst) (i1 i2 : Int) (d : Int) (at' : List Int) : ∀ (rest pre : List Int) (T : List Tr) (q : Pl) (n : Nat), at' = pre ++ rest → Inv q T → tot T + rest.length ≤ 10000000 → pre.length + rest.length ≤ 100000000 → rest.length < n →
   ∃ T' q', iterN (fun x : (List Rw × (Pst × (List Pst × (Int × (Int × (List Int × (Int × (Int × Unit)))))))) × (Pl × Unit) => byDoc_s4 x.1.1 x.1.2.1 x.1.2.2.1 x.1.2.2.2.1 x.1.2.2.2.2.1 x.1.2.2.2.2.2.1 x.1.2.2.2.2.2.2.1 x.1.2.2.2.2.2.2.2.1 x.2.1) n ((T.map rwT, ((d, at'), (l, (i1, (i2, (at', ((at'.length : Int), (((pre.length : Nat) : Int), ())))))))), (q, ())) = some ((T'.map rwT, (l, (i1, (i2, ())))), (q', ())) ∧
    Inv q' T' ∧ tot T' ≤ tot T + rest.length ∧ ∀ d' k, Has T' d' k ↔ Has T d' k ∨ (0 ≤ d ∧ d' = d ∧ 0 ≤ k ∧ k ∈ rest)
  | [], pre, T, q, 0, _, _, _, _, hn => by simp at hn
  | [], pre, T, q, n + 1, he, h, hb, hb2, hn => by
   refine ⟨T, q, iterN_inr ?_, h, by simp, by simp⟩
   have hlt : ¬ ((pre.length : Nat) : Int) < (at'.length : Int) := by rw [he]; simp
   simp only [byDoc_s4, hlt, decide_false, cond_false]
  | a :: rest, pre, T, q, 0, _, _, _, _, hn => by simp at hn
  | a :: rest, pre, T, q, n + 1, he, h, hb, hb2, hn => by
   simp only [List.length_cons] at hb hb2 hn
   have hlt : ((pre.length : Nat) : Int) < (at'.length : Int) := by rw [he]; exact lt_mid
   have hlk : lk at' ((pre.length : Nat) : Int) = some a := by rw [he]; exact lk_mid
   have hw : IntKind.i64.wrap (((pre.length : Nat) : Int) + 1) = (((pre ++ [a]).length : Nat) : Int) := w_mid (by omega)
   have he' : at' = (pre ++ [a]) ++ rest := by rw [he]; exact app_mid
   by_cases hd : 0 ≤ d
   ·by_cases ha : 0 ≤ a
    ·obtain ⟨l9, T', g1, g2, g3, g4, g5, g6⟩ := add_is h hd ha
     obtain ⟨T2, q2, k1, k2, k3, k4⟩ := byDoc_in l i1 i2 d at' rest (pre ++ [a]) T' _ n he' g4 (by omega) (by simp; omega) (by omega)
     refine ⟨T2, q2, ?_, k2, by simp only [List.length_cons]; omega, fun d' k => ?_⟩
     ·rw [← k1]
      refine iterN_inl ?_
      have hr : roomOk (l9.length + [a].length) 8 = true := room8 (by simp; omega)
      have hd' : d ≥ 0 := hd
      have ha' : a ≥ 0 := ha
      simp only [byDoc_s4, hlt, decide_true, cond_true, hlk, Option.bind_some, hd', ha', g1, hr, g3, hw]
     ·rw [k4, g6]
      constructor
      ·rintro ((h1 | ⟨rfl, rfl⟩) | ⟨h1, h2, h3, h4⟩)
       ·exact .inl h1
       ·exact .inr ⟨hd, rfl, ha, by simp⟩
       ·exact .inr ⟨h1, h2, h3, by simp [h4]⟩
      ·rintro (h1 | ⟨h1, h2, h3, h4⟩)
       ·exact .inl (.inl h1)
       ·rcases List.mem_cons.1 h4 with rfl | h4
        ·exact .inl (.inr ⟨h2, rfl⟩)
        ·exact .inr ⟨h1, h2, h3, h4⟩
    ·obtain ⟨T2, q2, k1, k2, k3, k4⟩ := byDoc_in l i1 i2 d at' rest (pre ++ [a]) T q n he' h (by omega) (by simp; omega) (by omega)
     refine ⟨T2, q2, ?_, k2, by simp only [List.length_cons]; omega, fun d' k => ?_⟩
     ·rw [← k1]
      refine iterN_inl ?_
      have hd' : d ≥ 0 := hd
      have ha' : ¬ a ≥ 0 := ha
      simp only [byDoc_s4, hlt, decide_true, decide_false, cond_true, cond_false, hlk, Option.bind_some, hd', ha', hw]
     ·rw [k4]
      constructor
      ·rintro (h1 | ⟨h1, h2, h3, h4⟩)
       ·exact .inl h1
       ·exact .inr ⟨h1, h2, h3, by simp [h4]⟩
      ·rintro (h1 | ⟨h1, h2, h3, h4⟩)
       ·exact .inl h1
       ·rcases List.mem_cons.1 h4 with rfl | h4
        ·exact absurd h3 ha
        ·exact .inr ⟨h1, h2, h3, h4⟩
   ·obtain ⟨T2, q2, k1, k2, k3, k4⟩ := byDoc_in l i1 i2 d at' rest (pre ++ [a]) T q n he' h (by omega) (by simp; omega) (by omega)
    refine ⟨T2, q2, ?_, k2, by simp only [List.length_cons]; omega, fun d' k => ?_⟩
    ·rw [← k1]
     refine iterN_inl ?_
     have hd' : ¬ d ≥ 0 := hd
     simp only [byDoc_s4, hlt, decide_true, decide_false, cond_true, cond_false, hlk, Option.bind_some, hd', hw]
    ·rw [k4]
     constructor
     ·rintro (h1 | ⟨h1, _⟩)
      ·exact .inl h1
      ·exact absurd h1 hd
     ·rintro (h1 | ⟨h1, _⟩)
      ·exact .inl h1
      ·exact absurd h1 hd
def cnL (l : List Pst) : Nat := (l.map (·.2.length)).sum
def Small (l : List Pst) : Prop := l.length ≤ 10000000 ∧ cnL l ≤ 10000000
theorem byDoc_out (l : List Pst) : ∀ (rest pre : List Pst) (T : List Tr) (q : Pl) (n : Nat), l = pre ++ rest → Inv q T → tot T + cnL rest ≤ 10000000 → pre.length + rest.length ≤ 10000000 → rest.length < n →
   ∃ T' q', iterN (fun x : (List Rw × (List Pst × (Int × (Int × Unit)))) × (Pl × Unit) => byDoc_s1 x.1.1 x.1.2.1 x.1.2.2.1 x.1.2.2.2.1 x.2.1) n ((T.map rwT, (l, ((l.length : Int), (((pre.length : Nat) : Int), ())))), (q, ())) = some ((T'.map rwT, ()), (q', ())) ∧
    Inv q' T' ∧ tot T' ≤ tot T + cnL rest ∧ ∀ d' k, Has T' d' k ↔ Has T d' k ∨ M rest d' k
  | [], pre, T, q, 0, _, _, _, _, hn => by simp at hn
  | [], pre, T, q, n + 1, he, h, hb, hb2, hn => by
   refine ⟨T, q, iterN_inr ?_, h, by simp, fun d' k => by simp [M, M0]⟩
   have hlt : ¬ ((pre.length : Nat) : Int) < (l.length : Int) := by rw [he]; simp
   simp only [byDoc_s1, hlt, decide_false, cond_false]
  | p :: rest, pre, T, q, 0, _, _, _, _, hn => by simp at hn
  | p :: rest, pre, T, q, n + 1, he, h, hb, hb2, hn => by
   have hc : cnL (p :: rest) = p.2.length + cnL rest := by simp [cnL]
   rw [hc] at hb ⊢
   simp only [List.length_cons] at hb2 hn
   have hlt : ((pre.length : Nat) : Int) < (l.length : Int) := by rw [he]; exact lt_mid
   have hlk : lk l ((pre.length : Nat) : Int) = some p := by rw [he]; exact lk_mid
   have hw : IntKind.i64.wrap (((pre.length : Nat) : Int) + 1) = (((pre ++ [p]).length : Nat) : Int) := w_mid (by omega)
   obtain ⟨T1, q1, g1, g2, g3, g4⟩ := byDoc_in l (l.length : Int) ((pre.length : Nat) : Int) p.1 p.2 p.2 [] T q fuN rfl h (by omega) (by simp; omega) (by have := fuN_le; omega)
   obtain ⟨T2, q2, k1, k2, k3, k4⟩ := byDoc_out l rest (pre ++ [p]) T1 q1 n (by rw [he]; exact app_mid) g2 (by omega) (by simp; omega) (by omega)
   refine ⟨T2, q2, ?_, k2, by omega, fun d' k => ?_⟩
   ·rw [← k1]
    refine iterN_inl ?_
    have g1' : iterN (fun x : (List Rw × (Pst × (List Pst × (Int × (Int × (List Int × (Int × (Int × Unit)))))))) × (Pl × Unit) => byDoc_s4 x.1.1 x.1.2.1 x.1.2.2.1 x.1.2.2.2.1 x.1.2.2.2.2.1 x.1.2.2.2.2.2.1 x.1.2.2.2.2.2.2.1 x.1.2.2.2.2.2.2.2.1 x.2.1) fuN ((T.map rwT, (p, (l, ((l.length : Int), (((pre.length : Nat) : Int), (p.2, ((p.2.length : Int), ((0 : Int), ())))))))), (q, ())) = some ((T1.map rwT, (l, ((l.length : Int), (((pre.length : Nat) : Int), ())))), (q1, ())) := g1
    simp only [byDoc_s1, hlt, decide_true, cond_true, hlk, Option.bind_some, g1', hw]
   ·rw [k4, g4]
    unfold M M0
    constructor
    ·rintro ((h1 | ⟨h1, h2, h3, h4⟩) | ⟨h1, h2, x, h3, h4, h5⟩)
     ·exact .inl h1
     ·exact .inr ⟨by omega, h3, p, by simp, h2.symm, h4⟩
     ·exact .inr ⟨h1, h2, x, by simp [h3], h4, h5⟩
    ·rintro (h1 | ⟨h1, h2, x, h3, h4, h5⟩)
     ·exact .inl (.inl h1)
     ·rcases List.mem_cons.1 h3 with rfl | h3
      ·exact .inl (.inr ⟨by omega, h4.symm, h2, h5⟩)
      ·exact .inr ⟨h1, h2, x, h3, h4, h5⟩
theorem byDoc_is (l : List Pst) (hl : Small l) : ∃ T q, byDoc l = some ((), (((q, ()), T.map rwT), ())) ∧ Inv q T ∧ tot T ≤ 10000000 ∧ ∀ d k, Has T d k ↔ M l d k := by
  obtain ⟨T, q, h1, h2, h3, h4⟩ := byDoc_out l l [] [] [] fuN rfl inv_nil (by simpa [tot] using hl.2) (by simpa using hl.1) (by have := fuN_le; have := hl.1; omega)
  refine ⟨T, q, ?_, h2, by have := hl.2; simp [tot] at h3 ⊢; omega, fun d k => (h4 d k).trans (by simp [Has])⟩
  have h1' : iterN (fun x : (List Rw × (List Pst × (Int × (Int × Unit)))) × (Pl × Unit) => byDoc_s1 x.1.1 x.1.2.1 x.1.2.2.1 x.1.2.2.2.1 x.2.1) fuN (([], (l, ((l.length : Int), ((0 : Int), ())))), ([], ())) = some ((T.map rwT, ()), (q, ())) := h1
  simp only [byDoc, h1', Option.bind_some]
  rfl
theorem byDoc1_is (l : List Pst) : byDoc1 l = byDoc l := rfl
theorem sh0 (T : List Tr) : List.map (fun p => (p.1, (shH ([] : List (Option (List Int))).length p.2))) (T.map rwT) = T.map rwT := by
  rw [List.map_map]
  rfl
theorem sh_res (q0 : Pl) (A : List Pst) : List.map (fun u => (u.1, shH q0.length u.2)) (res A).2 = (trs q0.length A).map rwT := by
  have := shH_hnd q0.length A 0
  rw [Nat.zero_add] at this
  exact this
theorem dead_app (n : Nat) (A : List Pst) (q0 : Pl) (h : ∀ (i : Nat) (x : List Int), q0[i]? ≠ some (some x)) : Live (q0 ++ objs A) (trs q0.length A) := by
  intro i x hx
  rcases Nat.lt_or_ge i q0.length with hi | hi
  ·rw [List.getElem?_append_left hi] at hx; exact absurd hx (h i x)
  ·rw [List.getElem?_append_right hi] at hx
   obtain ⟨hlt, _⟩ := List.getElem?_eq_some_iff.1 hx
   rw [trs_idx]
   simp only [objs, List.length_map] at hlt
   simp only [List.mem_range'_1]
   omega
theorem norm_is (l : List Pst) (hl : Small l) : ∃ R, norm l = some ((), (res R, ())) ∧ IsN l R := by
  obtain ⟨T, q, h1, h2, h3, h4⟩ := byDoc_is l hl
  obtain ⟨R, g1, g2, g3⟩ := list_is h2.own h2.live h2.nd h2.nn (fun t ht => ⟨by have := mem_tot ht; omega, h2.ne t ht⟩) (by have := len_tot h2.ne; omega)
  refine ⟨R, ?_, g2, fun d k => (g3 d k).trans (h4 d k)⟩
  have hd : ∀ (i : Nat) (x : List Int), (List.map (fun _ => (none : Option (List Int))) q)[i]? ≠ some (some x) := fun i x h => by
   rw [List.getElem?_map] at h
   cases hq : q[i]? <;> simp [hq] at h
  have hc := cn_is (own_trs (List.map (fun _ => (none : Option (List Int))) q) R) (dead_app 0 R _ hd)
  simp only [norm, h1, Option.bind_some, sh0, shL_id, List.nil_append, g1, sh_res]
  rw [trs_pst] at hc
  exact congrArg (fun z => some ((), (z, ()))) hc
end Go.Vu.Mg
namespace Go.Vu.Mg
open Go Go.Vu Go.Sort Go.Vu.Srt
def Gives (o : Option (Unit × (((Pl × Unit) × List Rw) × Unit))) (R : List Pst) : Prop := ∃ q T, o = some ((), (((q, ()), T.map rwT), ())) ∧ OwnT q T ∧ T.map pst = R
def Spec (P : Int → Int → Prop) (o : Option (Unit × (((Pl × Unit) × List Rw) × Unit))) (R : List Pst) : Prop := Gives o R ∧ Nm R ∧ ∀ d n, M0 R d n ↔ P d n
abbrev cnr (q : Pl) (l : List Rw) := cnP [(0, (.int IntKind.i64))] (.vec (.st (.pair (.int IntKind.i64) (.psl 0)))) (q, ()) l
theorem hnd_own (A : List Pst) : OwnT (objs A) (trs 0 A) := own_trs [] A
theorem cn_any {q : Pl} {T : List Tr} (h : OwnT q T) : ∃ q' T', cnr q (T.map rwT) = ((q', ()), T'.map rwT) ∧ OwnT q' T' ∧ T'.map pst = T.map pst := by
  cases hc : cnOk q (T.map (·.2.1)) with
  | true =>
   refine ⟨objs (T.map pst), trs 0 (T.map pst), cn_is h fun i x hx => ?_, hnd_own _, trs_pst _ _⟩
   simp only [cnOk, Bool.and_eq_true] at hc
   have hlt : i < q.length := (List.getElem?_eq_some_iff.1 hx).1
   have := List.all_eq_true.1 hc.2 i (List.mem_range.2 hlt)
   simpa only [liveAt, hx, Bool.not_true, Bool.false_or, List.contains_eq_mem, decide_eq_true_eq] using this
  | false =>
   refine ⟨q, T, ?_, h, rfl⟩
   show (bif (Ty.int IntKind.i64).pls.isEmpty && (rnOk (.vec (.st (.pair (.int IntKind.i64) (.psl 0)))) && cnOk q (hsV 0 (.vec (.st (.pair (.int IntKind.i64) (.psl 0)))) (T.map rwT))) then
    (((hsV 0 (.vec (.st (.pair (.int IntKind.i64) (.psl 0)))) (T.map rwT)).map (poolAt q), ()), rnV 0 (fun i => (hsV 0 (.vec (.st (.pair (.int IntKind.i64) (.psl 0)))) (T.map rwT)).idxOf i) (.vec (.st (.pair (.int IntKind.i64) (.psl 0)))) (T.map rwT))
    else ((q, ()), T.map rwT)) = _
   rw [hsV_rows, hc]
   rfl
def shT (k : Nat) (t : Tr) : Tr := (t.1, t.2.1 + k, t.2.2)
theorem sh_rows (k : Nat) (T : List Tr) : List.map (fun u => (u.1, shH k u.2)) (T.map rwT) = (T.map (shT k)).map rwT := by
  rw [List.map_map, List.map_map]
  rfl
theorem shT_pst (k : Nat) (T : List Tr) : (T.map (shT k)).map pst = T.map pst := by rw [List.map_map]; rfl
theorem own_sh {q : Pl} {T : List Tr} (h : OwnT q T) (q0 : Pl) : OwnT (q0 ++ q) (T.map (shT q0.length)) := by
  refine ⟨fun t ht => ?_, ?_⟩
  ·obtain ⟨x, hx, rfl⟩ := List.mem_map.1 ht
   simp only [shT]
   rw [List.getElem?_append_right (by omega), show x.2.1 + q0.length - q0.length = x.2.1 by omega]
   exact h.at' x hx
  ·rw [List.map_map]
   have := h.nd
   rw [show ((fun x : Tr => x.2.1) ∘ shT q0.length) = (fun i => i + q0.length) ∘ (fun x : Tr => x.2.1) from rfl, ← List.map_map]
   have h2 := List.pairwise_map.2 (this.imp (S := fun a b : Nat => a + q0.length ≠ b + q0.length) (fun {a b} hab => by omega))
   exact h2
theorem own_app {q : Pl} {T : List Tr} (h : OwnT q T) (q' : Pl) : OwnT (q ++ q') T :=
  ⟨fun t ht => by rw [List.getElem?_append_left (idx_lt h ht)]; exact h.at' t ht, h.nd⟩
theorem own_sub {q : Pl} {T T' : List Tr} (h : OwnT q T) (hs : T'.Sublist T) : OwnT q T' :=
  ⟨fun t ht => h.at' t (hs.subset ht), (hs.map _).nodup h.nd⟩
theorem pass_on {q0 : Pl} {o : Option (Unit × (((Pl × Unit) × List Rw) × Unit))} {R : List Pst} (h : Gives o R) :
   Gives (o.bind fun r => some ((), (cnr (q0 ++ shL' q0 (fun (u : Int) => u) r.2.1.1.1) (List.map (fun u => (u.1, shH q0.length u.2)) r.2.1.2), ()))) R := by
  obtain ⟨q, T, rfl, h1, h2⟩ := h
  obtain ⟨q', T', g1, g2, g3⟩ := cn_any (own_sh h1 q0)
  refine ⟨q', T', ?_, g2, by rw [g3, shT_pst, h2]⟩
  simp only [Option.bind_some, shL_id, sh_rows]
  rw [← g1]
theorem res_gives (R : List Pst) : Gives (some ((), (res R, ()))) R := ⟨objs R, trs 0 R, rfl, hnd_own R, trs_pst R 0⟩
theorem norm_spec (l : List Pst) (hl : Small l) : ∃ R, Spec (M l) (norm l) R := by
  obtain ⟨R, h1, h2⟩ := norm_is l hl
  exact ⟨R, by rw [h1]; exact res_gives R, h2.nm, h2.mem⟩
theorem cnL_app (a b : List Pst) : cnL (a ++ b) = cnL a + cnL b := by simp [cnL]
theorem concat_is (a b : List Pst) (h : a.length + b.length ≤ 100000000) : concat [a, b] = some ((), (a ++ b, ())) := by
  have hn := fuN_le
  obtain ⟨n, e⟩ : ∃ n, fuN = n + 3 := ⟨fuN - 3, by omega⟩
  have w1 : IntKind.i64.wrap ((0 : Int) + (a.length : Int)) = (a.length : Int) := by rw [Int.zero_add, wrap64] <;> omega
  have w2 : IntKind.i64.wrap ((a.length : Int) + (b.length : Int)) = ((a.length + b.length : Nat) : Int) := w_add (by omega)
  have v1 : IntKind.i64.wrap ((0 : Int) + 1) = 1 := by decide
  have v2 : IntKind.i64.wrap ((1 : Int) + 1) = 2 := by decide
  have l0 : lk [a, b] (0 : Int) = some a := rfl
  have l1 : lk [a, b] (1 : Int) = some b := rfl
  have k1 : iterN (fun x : List (List Pst) × (Int × (List (List Pst) × (Int × (Int × Unit)))) => concat_s3 x.1 x.2.1 x.2.2.1 x.2.2.2.1 x.2.2.2.2.1) fuN ([a, b], ((0 : Int), ([a, b], ((([a, b] : List (List Pst)).length : Int), ((0 : Int), ()))))) = some ([a, b], (((a.length + b.length : Nat) : Int), ())) := by
   rw [e]
   have c1 : ¬ ((a.length : Int) < 0) := by omega
   have c2 : ¬ (((a.length + b.length : Nat) : Int) < 0) := by omega
   rw [iterN_inl (y := ([a, b], ((a.length : Int), ([a, b], ((2 : Int), ((1 : Int), ())))))) (by
    simp only [concat_s3, show decide ((0 : Int) < (([a, b] : List (List Pst)).length : Int)) = true from rfl, cond_true, l0, Option.bind_some, w1, v1, c1, decide_false, cond_false]
    rfl)]
   rw [iterN_inl (y := ([a, b], (((a.length + b.length : Nat) : Int), ([a, b], ((2 : Int), ((2 : Int), ())))))) (by
    simp only [concat_s3, show decide ((1 : Int) < 2) = true from rfl, cond_true, l1, Option.bind_some, w2, v2, c2, decide_false, cond_false])]
   exact iterN_inr (by simp [concat_s3])
  have hr : roomOk (a.length + b.length) 32 = true := room32 (by omega)
  have k2 : grow ((a.length + b.length : Nat) : Int) = some ((), ([], ())) := by
   have c2 : ¬ (((a.length + b.length : Nat) : Int) < 0) := by omega
   have w3 : IntKind.i64.wrap (((a.length + b.length : Nat) : Int) - IntKind.i64.wrap ((0 : Int) - 0)) = ((a.length + b.length : Nat) : Int) := by
    rw [show IntKind.i64.wrap ((0 : Int) - 0) = 0 from by decide, Int.sub_zero, wrap64] <;> omega
   simp only [grow, c2, decide_false, cond_false, Option.bind_some, w3]
   by_cases hp : ((a.length + b.length : Nat) : Int) > 0
   ·have i1 : inB (0 : Int) (0 : Int) 0 = true := by decide
    have i2 : inB (0 : Int) (0 : Int) ((a.length + b.length : Nat) : Int) = true := by unfold inB; simp; omega
    have hd : decide (0 ≤ ((a.length + b.length : Nat) : Int)) = true := decide_eq_true (Int.natCast_nonneg _)
    simp only [hp, decide_true, cond_true, i1, hd, Int.toNat_natCast, hr, Bool.and_self, List.length_replicate, i2]
    simp
   ·simp only [hp, decide_false, cond_false]
  have k3 : iterN (fun x : List Pst × (List (List Pst) × (Int × (Int × Unit))) => concat_s10 x.1 x.2.1 x.2.2.1 x.2.2.2.1) fuN ([], ([a, b], ((([a, b] : List (List Pst)).length : Int), ((0 : Int), ())))) = some (a ++ b, ()) := by
   rw [e]
   have r1 : roomOk a.length 32 = true := room32 (by omega)
   rw [iterN_inl (y := (a, ([a, b], ((2 : Int), ((1 : Int), ()))))) (by
    have r1' : roomOk (([] : List Pst).length + a.length) 32 = true := by simpa using r1
    simp only [concat_s10, show decide ((0 : Int) < (([a, b] : List (List Pst)).length : Int)) = true from rfl, cond_true, l0, Option.bind_some, v1, r1', List.nil_append]
    rfl)]
   rw [iterN_inl (y := (a ++ b, ([a, b], ((2 : Int), ((2 : Int), ()))))) (by
    simp only [concat_s10, show decide ((1 : Int) < 2) = true from rfl, cond_true, l1, Option.bind_some, v2, hr])]
   exact iterN_inr (by simp [concat_s10])
  simp only [concat, k1, Option.bind_some, k2, k3]
theorem small_app {a b : List Pst} (ha : a.length + b.length ≤ 10000000) (hb : cnL a + cnL b ≤ 10000000) : Small (a ++ b) := ⟨by simpa using ha, by rw [cnL_app]; exact hb⟩
theorem M_app (a b : List Pst) (d n : Int) : M (a ++ b) d n ↔ M a d n ∨ M b d n := by
  unfold M M0
  constructor
  ·rintro ⟨h1, h2, p, h3, h4⟩
   rcases List.mem_append.1 h3 with h3 | h3
   ·exact .inl ⟨h1, h2, p, h3, h4⟩
   ·exact .inr ⟨h1, h2, p, h3, h4⟩
  ·rintro (⟨h1, h2, p, h3, h4⟩ | ⟨h1, h2, p, h3, h4⟩)
   ·exact ⟨h1, h2, p, by simp [h3], h4⟩
   ·exact ⟨h1, h2, p, by simp [h3], h4⟩
theorem or_spec (a b : List Pst) (ha : a.length + b.length ≤ 10000000) (hb : cnL a + cnL b ≤ 10000000) : ∃ R, Spec (fun d n => M a d n ∨ M b d n) (or a b) R := by
  obtain ⟨R, h1, h2, h3⟩ := norm_spec (a ++ b) (small_app ha hb)
  refine ⟨R, ?_, h2, fun d n => (h3 d n).trans (M_app a b d n)⟩
  have := pass_on (q0 := []) h1
  simp only [or, concat_is a b (by omega), Option.bind_some]
  exact this
def prs (l : List Pst) : List (Int × Int) := l.flatMap fun p => p.2.map fun n => (p.1, n)
theorem mem_prs {l : List Pst} {d n : Int} : (d, n) ∈ prs l ↔ M0 l d n := by
  unfold prs M0
  rw [List.mem_flatMap]
  constructor
  ·rintro ⟨p, h1, h2⟩
   obtain ⟨k, h3, h4⟩ := List.mem_map.1 h2
   cases h4
   exact ⟨p, h1, rfl, h3⟩
  ·rintro ⟨p, h1, rfl, h2⟩
   exact ⟨p, h1, List.mem_map.2 ⟨n, h2, rfl⟩⟩
theorem prs_length : ∀ l : List Pst, (prs l).length = cnL l
  | [] => rfl
  | p :: l => by
   have := prs_length l
   simp only [prs, cnL, List.flatMap_cons, List.length_append, List.length_map, List.map_cons, List.sum_cons] at this ⊢
   omega
theorem nodup_le {α : Type} [BEq α] [LawfulBEq α] : ∀ {a b : List α}, a.Nodup → (∀ x ∈ a, x ∈ b) → a.length ≤ b.length
  | [], b, _, _ => Nat.zero_le _
  | x :: a, b, h, hs => by
   obtain ⟨h1, h2⟩ := List.nodup_cons.1 h
   have hx := hs x (by simp)
   have := nodup_le (b := b.erase x) h2 fun y hy => (List.mem_erase_of_ne (fun e => h1 (by rw [← e]; exact hy))).2 (hs y (by simp [hy]))
   rw [List.length_erase_of_mem hx] at this
   have := List.length_pos_of_mem hx
   simp only [List.length_cons]
   omega
theorem prs_nodup : ∀ {R : List Pst}, R.Pairwise (fun p q => p.1 < q.1) → (∀ p ∈ R, p.2.Pairwise (· < ·)) → (prs R).Nodup
  | [], _, _ => List.nodup_nil
  | p :: R, h, hr => by
   obtain ⟨h1, h2⟩ := List.pairwise_cons.1 h
   show (p.2.map (fun n => (p.1, n)) ++ prs R).Nodup
   rw [List.nodup_append]
   refine ⟨?_, prs_nodup h2 fun q hq => hr q (by simp [hq]), fun x hx y hy e => ?_⟩
   ·refine List.pairwise_map.2 ((hr p (by simp)).imp fun {a b} hab e => ?_)
    have := (Prod.mk.inj e).2; omega
   ·subst e
    obtain ⟨n, _, rfl⟩ := List.mem_map.1 hx
    obtain ⟨q, hq, e, _⟩ := mem_prs.1 hy
    have := h1 q hq; omega
theorem nm_cnL {R l : List Pst} (h : Nm R) (hs : ∀ d n, M0 R d n → M0 l d n) : cnL R ≤ cnL l := by
  rw [← prs_length, ← prs_length]
  exact nodup_le (prs_nodup h.docs fun p hp => (h.row p hp).2.2.1) fun x hx => mem_prs.2 (hs x.1 x.2 (mem_prs.1 hx))
theorem nm_length : ∀ {R : List Pst}, (∀ p ∈ R, p.2 ≠ []) → R.length ≤ cnL R
  | [], _ => Nat.zero_le _
  | p :: R, h => by
   have := nm_length (R := R) fun q hq => h q (by simp [hq])
   have h2 := List.length_pos_iff.2 (h p (by simp))
   simp only [cnL, List.length_cons, List.map_cons, List.sum_cons] at this ⊢
   omega
theorem nm_len {R l : List Pst} (h : Nm R) (hs : ∀ d n, M0 R d n → M0 l d n) : R.length ≤ cnL l :=
  Nat.le_trans (nm_length fun p hp => (h.row p hp).2.1) (nm_cnL h hs)
theorem docs_loop (q : Pl) (T : List Tr) : ∀ (rest pre : List Tr) (n : Nat), T = pre ++ rest → T.length ≤ 10000000 → rest.length < n →
   iterN (fun x : (List Int × (List Rw × (Int × (Int × Unit)))) × (Pl × Unit) => docs_s5 x.1.1 x.1.2.1 x.1.2.2.1 x.1.2.2.2.1 x.2.1) n ((pre.map (·.1), (T.map rwT, (((T.map rwT).length : Int), (((pre.length : Nat) : Int), ())))), (q, ())) = some ((T.map (·.1), ()), (q, ()))
  | [], pre, 0, _, _, hn => by simp at hn
  | [], pre, n + 1, he, hb, hn => by
   rw [List.append_nil] at he
   subst he
   refine iterN_inr ?_
   have hlt : ¬ ((T.length : Nat) : Int) < ((T.map rwT).length : Int) := by simp
   simp only [docs_s5, hlt, decide_false, cond_false]
  | t :: rest, pre, 0, _, _, hn => by simp at hn
  | t :: rest, pre, n + 1, he, hb, hn => by
   have hb' := hb
   rw [he] at hb'
   simp only [List.length_append, List.length_cons] at hb' hn
   have hlt : ((pre.length : Nat) : Int) < ((T.map rwT).length : Int) := by rw [he]; simp; omega
   have hlk : lk (T.map rwT) ((pre.length : Nat) : Int) = some (rwT t) := by
    rw [he, List.map_append, List.map_cons]
    have := lk_mid (pre := pre.map rwT) (rest := rest.map rwT) (x := rwT t)
    rwa [List.length_map] at this
   have hw : IntKind.i64.wrap (((pre.length : Nat) : Int) + 1) = (((pre ++ [t]).length : Nat) : Int) := w_mid (by omega)
   rw [← docs_loop q T rest (pre ++ [t]) n (by rw [he]; exact app_mid) hb (by omega)]
   refine iterN_inl ?_
   have hr : roomOk ((pre.map (·.1)).length + [(rwT t).1].length) 8 = true := room8 (by simp; omega)
   simp only [docs_s5, hlt, decide_true, cond_true, hlk, Option.bind_some, hr, hw]
   simp [rwT]
theorem docs_is (l : List Pst) (hl : Small l) : ∃ R, IsN l R ∧ docs l = some ((), (R.map (·.1), ())) := by
  obtain ⟨R, ⟨q, T, h1, h2, h3⟩, h4, h5⟩ := norm_spec l hl
  refine ⟨R, ⟨h4, h5⟩, ?_⟩
  have hR : R.length ≤ 10000000 := Nat.le_trans (nm_len h4 fun d n h => ((h5 d n).1 h).2.2) hl.2
  have hlen : (T.map (shT 0)).length ≤ 10000000 := by rw [← h3] at hR; simpa using hR
  have := docs_loop q (T.map (shT 0)) (T.map (shT 0)) [] fuN rfl hlen (by have := fuN_le; omega)
  simp only [docs, h1, Option.bind_some, shL_id, List.nil_append, List.length_nil, sh_rows] at this ⊢
  have e : iterN (fun x : (List Int × (List Rw × (Int × (Int × Unit)))) × (Pl × Unit) => docs_s5 x.1.1 x.1.2.1 x.1.2.2.1 x.1.2.2.2.1 x.2.1) fuN (([], ((T.map (shT 0)).map rwT, ((((T.map (shT 0)).map rwT).length : Int), ((0 : Int), ())))), (q, ())) = some (((T.map (shT 0)).map (·.1), ()), (q, ())) := this
  rw [e, ← h3]
  simp only [Option.bind_some]
  rw [List.map_map, List.map_map]
  rfl
end Go.Vu.Mg
namespace Go.Vu.Mg
open Go Go.Vu Go.Sort Go.Vu.Srt
def Dn (l : List Pst) (d : Int) : Prop := ∃ k, M l d k
def hasB (x : List Pst) (d : Int) : Bool := decide ((((mget x d).getD ([] : List Int)).length : Int) > (0 : Int))
theorem mget_pst {d : Int} : ∀ {T : List Tr}, (T.map (·.1)).Nodup → ∀ k, k ∈ (mget (T.map pst) d).getD [] ↔ Has T d k
  | [], _, k => by simp [mget, Has]
  | t :: T, h, k => by
   obtain ⟨h1, h2⟩ := List.nodup_cons.1 h
   have ih := mget_pst (d := d) h2 k
   by_cases e : t.1 = d
   ·have e' : (pst t).1 = d := e
    simp only [List.map_cons, mget, e', decide_true, cond_true, Option.getD_some]
    constructor
    ·intro hk; exact ⟨t, by simp, e, hk⟩
    ·rintro ⟨x, hx, h3, h4⟩
     rcases List.mem_cons.1 hx with rfl | hx
     ·exact h4
     ·exact absurd (List.mem_map.2 ⟨x, hx, h3.trans e.symm⟩) h1
   ·have e' : (pst t).1 ≠ d := e
    simp only [List.map_cons, mget, e', decide_false, cond_false]
    rw [ih]
    unfold Has
    constructor
    ·rintro ⟨x, hx, h3⟩; exact ⟨x, by simp [hx], h3⟩
    ·rintro ⟨x, hx, h3, h4⟩
     rcases List.mem_cons.1 hx with rfl | hx
     ·exact absurd h3 e
     ·exact ⟨x, hx, h3, h4⟩
theorem hasB_iff {T : List Tr} (h : (T.map (·.1)).Nodup) {d : Int} : hasB (T.map pst) d = true ↔ ∃ k, Has T d k := by
  unfold hasB
  rw [decide_eq_true_eq]
  constructor
  ·intro h1
   have : 0 < ((mget (T.map pst) d).getD []).length := by omega
   obtain ⟨k, hk⟩ := List.exists_mem_of_length_pos this
   exact ⟨k, (mget_pst h k).1 hk⟩
  ·rintro ⟨k, hk⟩
   have := List.length_pos_of_mem ((mget_pst h k).2 hk)
   omega
theorem hasB_not {x : List Pst} {d : Int} : ((((mget x d).getD ([] : List Int)).length : Int) == (0 : Int)) = !hasB x d := by
  unfold hasB
  cases h : ((mget x d).getD ([] : List Int)).length with
  | zero => rfl
  | succ n =>
   have e1 : (((n + 1 : Nat) : Int) == 0) = false := by first | (simp; done) | (simp; omega)
   have e2 : decide (((n + 1 : Nat) : Int) > 0) = true := decide_eq_true (by omega)
   rw [e1, e2]; rfl
theorem andF_is (d : Int) (x y : List Pst) : andF d x y = some ((), (hasB x d && hasB y d, ())) := by
  show (bif hasB x d then some ((), (hasB y d, ())) else some ((), (false, ()))) = _
  cases hasB x d <;> rfl
theorem minusF_is (d : Int) (x : List Pst) : minusF d x = some ((), (!hasB x d, ())) := by
  simp only [minusF, hasB_not]
theorem keptA_loop (x y : List Pst) (q : Pl) (T : List Tr) : ∀ (rest pre D : List Tr) (n : Nat), T = pre ++ rest → T.length ≤ 10000000 → D.length ≤ pre.length → rest.length < n →
   iterN (fun x : ((List Pst × (List Pst × Unit)) × (List Rw × (List Rw × (Int × (Int × Unit))))) × (Pl × Unit) => keptA_s1 x.1.1 x.1.2.1 x.1.2.2.1 x.1.2.2.2.1 x.1.2.2.2.2.1 x.2.1) n (((x, (y, ())), (D.map rwT, (T.map rwT, (((T.map rwT).length : Int), (((pre.length : Nat) : Int), ()))))), (q, ())) = some (((D ++ rest.filter fun t => hasB x t.1 && hasB y t.1).map rwT, ()), (q, ()))
  | [], pre, D, 0, _, _, _, hn => by simp at hn
  | [], pre, D, n + 1, he, hb, hD, hn => by
   rw [List.append_nil] at he
   subst he
   refine iterN_inr ?_
   have hlt : ¬ ((T.length : Nat) : Int) < ((T.map rwT).length : Int) := by simp
   simp only [keptA_s1, hlt, decide_false, cond_false, List.filter_nil, List.append_nil]
  | t :: rest, pre, D, 0, _, _, _, hn => by simp at hn
  | t :: rest, pre, D, n + 1, he, hb, hD, hn => by
   have hb' := hb
   rw [he] at hb'
   simp only [List.length_append, List.length_cons] at hb' hn
   have hlt : ((pre.length : Nat) : Int) < ((T.map rwT).length : Int) := by rw [he]; simp; omega
   have hlk : lk (T.map rwT) ((pre.length : Nat) : Int) = some (rwT t) := by
    rw [he, List.map_append, List.map_cons]
    have := lk_mid (pre := pre.map rwT) (rest := rest.map rwT) (x := rwT t)
    rwa [List.length_map] at this
   have hw : IntKind.i64.wrap (((pre.length : Nat) : Int) + 1) = (((pre ++ [t]).length : Nat) : Int) := w_mid (by omega)
   have hf : (rwT t).1 = t.1 := rfl
   cases hc : (hasB x t.1 && hasB y t.1) with
   | true =>
    have ih := keptA_loop x y q T rest (pre ++ [t]) (D ++ [t]) n (by rw [he]; exact app_mid) hb (by simp; omega) (by omega)
    rw [List.filter_cons_of_pos (by simpa using hc), app_mid, ← ih]
    refine iterN_inl ?_
    have hr : roomOk ((D.map rwT).length + [rwT t].length) 32 = true := room32 (by simp; omega)
    simp only [keptA_s1, hlt, decide_true, cond_true, hlk, Option.bind_some, andF_is, hf, hc, hr, hw]
    simp
   | false =>
    have ih := keptA_loop x y q T rest (pre ++ [t]) D n (by rw [he]; exact app_mid) hb (by simp; omega) (by omega)
    rw [List.filter_cons_of_neg (by simpa using hc), ← ih]
    refine iterN_inl ?_
    simp only [keptA_s1, hlt, decide_true, cond_true, cond_false, hlk, Option.bind_some, andF_is, hf, hc, hw]
theorem keptM_loop (x : List Pst) (q : Pl) (T : List Tr) : ∀ (rest pre D : List Tr) (n : Nat), T = pre ++ rest → T.length ≤ 10000000 → D.length ≤ pre.length → rest.length < n →
   iterN (fun x : ((List Pst × Unit) × (List Rw × (List Rw × (Int × (Int × Unit))))) × (Pl × Unit) => keptM_s1 x.1.1 x.1.2.1 x.1.2.2.1 x.1.2.2.2.1 x.1.2.2.2.2.1 x.2.1) n (((x, ()), (D.map rwT, (T.map rwT, (((T.map rwT).length : Int), (((pre.length : Nat) : Int), ()))))), (q, ())) = some (((D ++ rest.filter fun t => !hasB x t.1).map rwT, ()), (q, ()))
  | [], pre, D, 0, _, _, _, hn => by simp at hn
  | [], pre, D, n + 1, he, hb, hD, hn => by
   rw [List.append_nil] at he
   subst he
   refine iterN_inr ?_
   have hlt : ¬ ((T.length : Nat) : Int) < ((T.map rwT).length : Int) := by simp
   simp only [keptM_s1, hlt, decide_false, cond_false, List.filter_nil, List.append_nil]
  | t :: rest, pre, D, 0, _, _, _, hn => by simp at hn
  | t :: rest, pre, D, n + 1, he, hb, hD, hn => by
   have hb' := hb
   rw [he] at hb'
   simp only [List.length_append, List.length_cons] at hb' hn
   have hlt : ((pre.length : Nat) : Int) < ((T.map rwT).length : Int) := by rw [he]; simp; omega
   have hlk : lk (T.map rwT) ((pre.length : Nat) : Int) = some (rwT t) := by
    rw [he, List.map_append, List.map_cons]
    have := lk_mid (pre := pre.map rwT) (rest := rest.map rwT) (x := rwT t)
    rwa [List.length_map] at this
   have hw : IntKind.i64.wrap (((pre.length : Nat) : Int) + 1) = (((pre ++ [t]).length : Nat) : Int) := w_mid (by omega)
   have hf : (rwT t).1 = t.1 := rfl
   cases hc : hasB x t.1 with
   | false =>
    have ih := keptM_loop x q T rest (pre ++ [t]) (D ++ [t]) n (by rw [he]; exact app_mid) hb (by simp; omega) (by omega)
    rw [List.filter_cons_of_pos (by simp [hc]), app_mid, ← ih]
    refine iterN_inl ?_
    have hr : roomOk ((D.map rwT).length + [rwT t].length) 32 = true := room32 (by simp; omega)
    simp only [keptM_s1, hlt, decide_true, cond_true, hlk, Option.bind_some, minusF_is, hf, hc, Bool.not_false, hr, hw]
    simp
   | true =>
    have ih := keptM_loop x q T rest (pre ++ [t]) D n (by rw [he]; exact app_mid) hb (by simp; omega) (by omega)
    rw [List.filter_cons_of_neg (by simp [hc]), ← ih]
    refine iterN_inl ?_
    simp only [keptM_s1, hlt, decide_true, cond_true, cond_false, hlk, Option.bind_some, minusF_is, hf, hc, Bool.not_true, hw]
theorem filt_pst (c : Int → Bool) (T : List Tr) : (T.filter fun t => c t.1).map pst = (T.map pst).filter fun p => c p.1 := by
  rw [List.filter_map]
  rfl
theorem keptA_is (x y : List Pst) {q : Pl} {T : List Tr} (h : OwnT q T) (hb : T.length ≤ 10000000) : Gives (keptA ((q, ()), T.map rwT) (x, (y, ()))) ((T.map pst).filter fun p => hasB x p.1 && hasB y p.1) := by
  have h1 : iterN (fun x : ((List Pst × (List Pst × Unit)) × (List Rw × (List Rw × (Int × (Int × Unit))))) × (Pl × Unit) => keptA_s1 x.1.1 x.1.2.1 x.1.2.2.1 x.1.2.2.2.1 x.1.2.2.2.2.1 x.2.1) fuN (((x, (y, ())), ([], (T.map rwT, (((T.map rwT).length : Int), ((0 : Int), ()))))), (q, ())) = some (((T.filter fun t => hasB x t.1 && hasB y t.1).map rwT, ()), (q, ())) := keptA_loop x y q T T [] [] fuN rfl hb (Nat.le_refl _) (by have := fuN_le; omega)
  obtain ⟨q', T', g1, g2, g3⟩ := cn_any (own_sub h (List.filter_sublist (p := fun t => hasB x t.1 && hasB y t.1)))
  refine ⟨q', T', ?_, g2, by rw [g3, filt_pst fun d => hasB x d && hasB y d]⟩
  simp only [keptA, h1, Option.bind_some]
  rw [← g1]
theorem keptM_is (x : List Pst) {q : Pl} {T : List Tr} (h : OwnT q T) (hb : T.length ≤ 10000000) : Gives (keptM ((q, ()), T.map rwT) (x, ())) ((T.map pst).filter fun p => !hasB x p.1) := by
  have h1 : iterN (fun x : ((List Pst × Unit) × (List Rw × (List Rw × (Int × (Int × Unit))))) × (Pl × Unit) => keptM_s1 x.1.1 x.1.2.1 x.1.2.2.1 x.1.2.2.2.1 x.1.2.2.2.2.1 x.2.1) fuN (((x, ()), ([], (T.map rwT, (((T.map rwT).length : Int), ((0 : Int), ()))))), (q, ())) = some (((T.filter fun t => !hasB x t.1).map rwT, ()), (q, ())) := keptM_loop x q T T [] [] fuN rfl hb (Nat.le_refl _) (by have := fuN_le; omega)
  obtain ⟨q', T', g1, g2, g3⟩ := cn_any (own_sub h (List.filter_sublist (p := fun t => !hasB x t.1)))
  refine ⟨q', T', ?_, g2, by rw [g3, filt_pst fun d => !hasB x d]⟩
  simp only [keptM, h1, Option.bind_some]
  rw [← g1]
theorem nm_filter {R : List Pst} (h : Nm R) (c : Pst → Bool) : Nm (R.filter c) :=
  ⟨h.docs.sublist List.filter_sublist, fun p hp => h.row p (List.mem_filter.1 hp).1⟩
theorem m0_filter {R : List Pst} {c : Int → Bool} {d n : Int} : M0 (R.filter fun p => c p.1) d n ↔ M0 R d n ∧ c d = true := by
  unfold M0
  constructor
  ·rintro ⟨p, h1, rfl, h3⟩
   obtain ⟨h4, h5⟩ := List.mem_filter.1 h1
   exact ⟨⟨p, h4, rfl, h3⟩, h5⟩
  ·rintro ⟨⟨p, h1, rfl, h3⟩, h5⟩
   exact ⟨p, List.mem_filter.2 ⟨h1, h5⟩, rfl, h3⟩
theorem spec_len {P : Int → Int → Prop} {o : Option (Unit × (((Pl × Unit) × List Rw) × Unit))} {R l : List Pst} (h : Spec P o R) (hs : ∀ d n, P d n → M0 l d n) : R.length ≤ cnL l ∧ cnL R ≤ cnL l :=
  ⟨nm_len h.2.1 fun d n h1 => hs d n ((h.2.2 d n).1 h1), nm_cnL h.2.1 fun d n h1 => hs d n ((h.2.2 d n).1 h1)⟩
theorem and_spec (a b : List Pst) (ha : a.length + b.length ≤ 10000000) (hb : cnL a + cnL b ≤ 10000000) : ∃ R, Spec (fun d n => (M a d n ∨ M b d n) ∧ Dn a d ∧ Dn b d) (and a b) R := by
  obtain ⟨T1, q1, a1, a2, a3, a4⟩ := byDoc_is a ⟨by omega, by omega⟩
  obtain ⟨T2, q2, b1, b2, b3, b4⟩ := byDoc_is b ⟨by omega, by omega⟩
  obtain ⟨R, hR⟩ := or_spec a b ha hb
  have hlen := (spec_len (l := a ++ b) hR fun d n h => by rw [← M_app] at h; exact h.2.2).1
  rw [cnL_app] at hlen
  obtain ⟨⟨q, T, c1, c2, c3⟩, hn, hm⟩ := hR
  have o1 := own_app a2.own q2
  have o2 := own_sh b2.own q1
  have hk := keptA_is (T1.map pst) (T2.map pst) c2 (by
   have h : R.length ≤ 10000000 := by omega
   rw [← c3] at h; simpa using h)
  have hp := pass_on (q0 := List.map (fun _ => (none : Option (List Int))) q) hk
  rw [c3] at hp
  simp only [shL_id] at hp
  refine ⟨R.filter fun p => hasB (T1.map pst) p.1 && hasB (T2.map pst) p.1, ?_, nm_filter hn _, fun d n => ?_⟩
  ·have e1 : List.all (T1.map rwT) (fun p => hok (q1 ++ q2) p.2) = true := all_own o1
   have e2 : List.all ((T2.map (shT q1.length)).map rwT) (fun p => hok (q1 ++ q2) p.2) = true := all_own o2
   have e3 : List.map (fun p => (p.1, hgetD (q1 ++ q2) p.2)) (T1.map rwT) = T1.map pst := map_own o1
   have e4 : List.map (fun p => (p.1, hgetD (q1 ++ q2) p.2)) ((T2.map (shT q1.length)).map rwT) = T2.map pst := by rw [← shT_pst q1.length T2]; exact map_own o2
   simp only [and, byDoc1_is, a1, b1, c1, Option.bind_some, shL_id, List.nil_append, sh0, sh_rows, e1, e2, e3, e4, Bool.and_self, cond_true]
   exact hp
  ·rw [m0_filter (c := fun d => hasB (T1.map pst) d && hasB (T2.map pst) d), hm, Bool.and_eq_true, hasB_iff a2.nd, hasB_iff b2.nd]
   unfold Dn
   simp only [a4, b4]
theorem minus_spec (a b : List Pst) (ha : Small a) (hb : Small b) : ∃ R, Spec (fun d n => M a d n ∧ ¬ Dn b d) (minus a b) R := by
  obtain ⟨T2, q2, b1, b2, b3, b4⟩ := byDoc_is b hb
  obtain ⟨R, hR⟩ := norm_spec a ha
  have hlen := (spec_len (l := a) hR fun d n h => h.2.2).1
  obtain ⟨⟨q, T, c1, c2, c3⟩, hn, hm⟩ := hR
  have hk := keptM_is (T2.map pst) c2 (by
   have := hb.2; have := ha.2
   have h : R.length ≤ 10000000 := by omega
   rw [← c3] at h; simpa using h)
  have hp := pass_on (q0 := List.map (fun _ => (none : Option (List Int))) q) hk
  rw [c3] at hp
  simp only [shL_id] at hp
  refine ⟨R.filter fun p => !hasB (T2.map pst) p.1, ?_, nm_filter hn _, fun d n => ?_⟩
  ·have e1 : List.all (T2.map rwT) (fun p => hok q2 p.2) = true := all_own b2.own
   have e3 : List.map (fun p => (p.1, hgetD q2 p.2)) (T2.map rwT) = T2.map pst := map_own b2.own
   simp only [minus, byDoc1_is, b1, c1, Option.bind_some, shL_id, List.nil_append, sh0, e1, e3, Bool.and_self, cond_true]
   exact hp
  ·rw [m0_filter (c := fun d => !hasB (T2.map pst) d), hm, Bool.not_eq_true', ← Bool.not_eq_true, hasB_iff b2.nd]
   unfold Dn
   simp only [b4]
end Go.Vu.Mg
namespace Go.Vu.Mg
open Go Go.Vu Go.Sort Go.Vu.Srt
theorem p1_64 : ((2 : Int) ^ (min (1 : Int).toNat IntKind.u64.bits)) = ((2 : Nat) : Int) := by decide
theorem half_is {i j : Nat} (h : i + j < 4611686018427387904) : IntKind.i64.wrap (Int.fdiv (IntKind.u64.wrap (IntKind.i64.wrap ((i : Int) + (j : Int)))) (2 ^ (min (1 : Int).toNat IntKind.u64.bits))) = (((i + j) / 2 : Nat) : Int) := by
  rw [w_add (by omega), wrapu64 (by omega) (by omega), p1_64, fdiv_nat, wrap64 (by omega) (by omega)]
theorem lk_get {l : List Int} {i : Nat} (h : i < l.length) : lk l (i : Int) = some l[i] := lk_idx (List.getElem?_eq_getElem h)
theorem bin_loop (l : List Int) (v : Int) (hs : l.Pairwise (· ≤ ·)) (hl : l.length ≤ 100000000) (m : Int) : ∀ (k i j n : Nat), k = j - i → i ≤ j → j ≤ l.length → (∀ x (h : x < l.length), x < i → l[x] < v) → (∀ x (h : x < l.length), j ≤ x → v ≤ l[x]) → k < n →
   ∃ r, r ≤ l.length ∧ iterN (fun x : List Int × (Int × (Int × (Int × (Int × Unit)))) => binSearch_s3 x.1 x.2.1 x.2.2.1 x.2.2.2.1 x.2.2.2.2.1) n (l, (v, (m, ((i : Int), ((j : Int), ()))))) = some (l, (v, (m, ((r : Int), ())))) ∧ (∀ x (h : x < l.length), x < r → l[x] < v) ∧ (∀ x (h : x < l.length), r ≤ x → v ≤ l[x]) := by
  intro k
  induction k using Nat.strongRecOn with
  | _ k ih =>
   intro i j n hk hij hj h1 h2 hn
   cases n with
   | zero => omega
   | succ n =>
    by_cases hlt : i < j
    ·have c : (i : Int) < (j : Int) := by omega
     have hh : (i + j) / 2 < l.length := by omega
     have hw : IntKind.i64.wrap ((((i + j) / 2 : Nat) : Int) + 1) = (((i + j) / 2 + 1 : Nat) : Int) := w_succ (by omega)
     by_cases hv : l[(i + j) / 2] < v
     ·obtain ⟨r, r1, r2, r3, r4⟩ := ih (j - ((i + j) / 2 + 1)) (by omega) ((i + j) / 2 + 1) j n rfl (by omega) hj (fun x hx hx2 => by
       rcases Nat.lt_or_ge x ((i + j) / 2) with h | h
       ·have := List.pairwise_iff_getElem.1 hs x ((i + j) / 2) hx hh h
        omega
       ·have : x = (i + j) / 2 := by omega
        subst this; exact hv) h2 (by omega)
      refine ⟨r, r1, ?_, r3, r4⟩
      rw [← r2]
      refine iterN_inl ?_
      simp only [binSearch_s3, c, decide_true, cond_true, Option.bind_some, half_is (show i + j < 4611686018427387904 by omega), lk_get hh, i_less, hv, hw, show decide ((0 : Int) ≤ 1) = true from rfl]
     ·obtain ⟨r, r1, r2, r3, r4⟩ := ih ((i + j) / 2 - i) (by omega) i ((i + j) / 2) n rfl (by omega) (by omega) h1 (fun x hx hx2 => by
       rcases Nat.lt_or_ge ((i + j) / 2) x with h | h
       ·have := List.pairwise_iff_getElem.1 hs ((i + j) / 2) x hh hx h
        omega
       ·have : x = (i + j) / 2 := by omega
        subst this; omega) (by omega)
      refine ⟨r, r1, ?_, r3, r4⟩
      rw [← r2]
      refine iterN_inl ?_
      simp only [binSearch_s3, c, decide_true, cond_true, Option.bind_some, half_is (show i + j < 4611686018427387904 by omega), lk_get hh, i_less, hv, decide_false, cond_false, show decide ((0 : Int) ≤ 1) = true from rfl]
    ·have : i = j := by omega
     subst this
     refine ⟨i, hj, iterN_inr ?_, h1, h2⟩
     simp only [binSearch_s3, show decide ((i : Int) < (i : Int)) = false by simp, cond_false, Option.bind_some]
theorem bin_is (l : List Int) (v : Int) (hs : l.Pairwise (· ≤ ·)) (hl : l.length ≤ 100000000) : ∃ r, binSearch l v = some ((), (r, (decide (v ∈ l), ()))) := by
  obtain ⟨r, r1, r2, r3, r4⟩ := bin_loop l v hs hl (l.length : Int) l.length 0 l.length fuN (by omega) (by omega) (Nat.le_refl _) (fun x _ h => by omega) (fun x h h' => by omega) (by have := fuN_le; omega)
  refine ⟨(r : Int), ?_⟩
  have r2' : iterN (fun x : List Int × (Int × (Int × (Int × (Int × Unit)))) => binSearch_s3 x.1 x.2.1 x.2.2.1 x.2.2.2.1 x.2.2.2.2.1) fuN (l, (v, ((l.length : Int), ((0 : Int), ((l.length : Int), ()))))) = some (l, (v, ((l.length : Int), ((r : Int), ())))) := r2
  simp only [binSearch, r2', Option.bind_some]
  by_cases hr : r < l.length
  ·have c : (r : Int) < (l.length : Int) := by omega
   simp only [c, decide_true, cond_true, lk_get hr, Option.bind_some]
   by_cases he : l[r] = v
   ·have hm : v ∈ l := by rw [← he]; exact List.getElem_mem hr
    simp only [he, beq_self_eq_true, cond_true, hm, decide_true]
   ·have hm : ¬ v ∈ l := by
     intro hm
     obtain ⟨x, hx, e⟩ := List.getElem_of_mem hm
     rcases Nat.lt_or_ge x r with h | h
     ·have := r3 x hx h; omega
     ·rcases Nat.lt_or_ge r x with h' | h'
      ·have := List.pairwise_iff_getElem.1 hs r x hr hx h'
       have := r4 r hr (Nat.le_refl _)
       omega
      ·have : x = r := by omega
       subst this; exact he e
    have hb : (l[r] == v) = false := by simp [he]
    simp only [hb, cond_false, isNaNs, Option.bind_some, bne_self_eq_false, hm, decide_false]
  ·have c : ¬ (r : Int) < (l.length : Int) := by omega
   have hm : ¬ v ∈ l := by
    intro hm
    obtain ⟨x, hx, e⟩ := List.getElem_of_mem hm
    have := r3 x hx (by omega)
    omega
   simp only [c, decide_false, cond_false, hm]
def kpB (i : Nat) (at' : List Int) (n : Int) : Bool := decide (n ≤ 9223372036854775807 - (i : Int) - 1) && decide (n + (i : Int) + 1 ∈ at')
theorem phraseF_is {i : Nat} (hi : i ≤ 100000000) {at' : List Int} (hs : at'.Pairwise (· ≤ ·)) (hl : at'.length ≤ 100000000) {n : Int} (hn : 0 ≤ n) : phraseF n (i : Int) at' = some ((), (!kpB i at' n, ())) := by
  have w1 : IntKind.i64.wrap (IntKind.i64.wrap ((9223372036854775807 : Int) - (i : Int)) - 1) = 9223372036854775807 - (i : Int) - 1 := by
   rw [wrap64 (x := (9223372036854775807 : Int) - (i : Int)) (by omega) (by omega), wrap64 (by omega) (by omega)]
  unfold kpB
  by_cases h : n ≤ 9223372036854775807 - (i : Int) - 1
  ·have c : ¬ n > 9223372036854775807 - (i : Int) - 1 := by omega
   have w2 : IntKind.i64.wrap (IntKind.i64.wrap (n + (i : Int)) + 1) = n + (i : Int) + 1 := by
    rw [wrap64 (x := n + (i : Int)) (by omega) (by omega), wrap64 (by omega) (by omega)]
   obtain ⟨r, hr⟩ := bin_is at' (n + (i : Int) + 1) hs hl
   simp only [phraseF, w1, c, decide_false, cond_false, Option.bind_some, w2, hr, h, decide_true, Bool.true_and]
  ·have c : n > 9223372036854775807 - (i : Int) - 1 := by omega
   simp only [phraseF, w1, c, decide_true, cond_true, Option.bind_some, h, decide_false, Bool.false_and, Bool.not_false]
section
variable {i : Nat} {at' : List Int}
theorem index_loop (hi : i ≤ 100000000) (hs : at'.Pairwise (· ≤ ·)) (hl : at'.length ≤ 100000000) (l : List Int) (hb : l.length ≤ 100000000) (h0 : ∀ n ∈ l, 0 ≤ n) : ∀ (rest pre : List Int) (n : Nat), l = pre ++ rest → rest.length < n →
   iterN (fun x : List Int × ((Int × (List Int × Unit)) × (Int × (Int × Unit))) => indexFunc_s2 x.1 x.2.1 x.2.2.1 x.2.2.2.1) n (l, (((i : Int), (at', ())), ((l.length : Int), (((pre.length : Nat) : Int), ())))) = (if rest.all (kpB i at') then some (.inr ()) else some (.inl ((((pre.length + (rest.takeWhile (kpB i at')).length : Nat) : Int), ()))))
  | [], pre, 0, _, hn => by simp at hn
  | [], pre, n + 1, he, hn => by
   have hlt : ¬ ((pre.length : Nat) : Int) < (l.length : Int) := by rw [he]; simp
   rw [List.all_nil, if_pos rfl]
   refine iterN_inr ?_
   simp only [indexFunc_s2, hlt, decide_false, cond_false]
  | a :: rest, pre, 0, _, hn => by simp at hn
  | a :: rest, pre, n + 1, he, hn => by
   have hb' := hb
   rw [he] at hb'
   simp only [List.length_append, List.length_cons] at hb' hn
   have hlt : ((pre.length : Nat) : Int) < (l.length : Int) := by rw [he]; exact lt_mid
   have hlk : lk l ((pre.length : Nat) : Int) = some a := by rw [he]; exact lk_mid
   have hw : IntKind.i64.wrap (((pre.length : Nat) : Int) + 1) = (((pre ++ [a]).length : Nat) : Int) := w_mid (by omega)
   have ha : 0 ≤ a := h0 a (by rw [he]; simp)
   cases hk : kpB i at' a with
   | true =>
    have ih := index_loop hi hs hl l hb h0 rest (pre ++ [a]) n (by rw [he]; exact app_mid) (by omega)
    rw [List.all_cons, hk, Bool.true_and, List.takeWhile_cons_of_pos hk]
    rw [show pre.length + (a :: rest.takeWhile (kpB i at')).length = (pre ++ [a]).length + (rest.takeWhile (kpB i at')).length by simp; omega, ← ih]
    refine iterN_inl ?_
    simp only [indexFunc_s2, hlt, decide_true, cond_true, hlk, Option.bind_some, phraseF_is hi hs hl ha, hk, Bool.not_true, cond_false, hw]
   | false =>
    rw [List.all_cons, hk, Bool.false_and, if_neg (by simp), List.takeWhile_cons_of_neg (by simp [hk])]
    refine iterN_inr ?_
    simp only [indexFunc_s2, hlt, decide_true, cond_true, hlk, Option.bind_some, phraseF_is hi hs hl ha, hk, Bool.not_false]
    rfl
theorem index_is (hi : i ≤ 100000000) (hs : at'.Pairwise (· ≤ ·)) (hl : at'.length ≤ 100000000) (l : List Int) (hb : l.length ≤ 100000000) (h0 : ∀ n ∈ l, 0 ≤ n) : indexFunc l ((i : Int), (at', ())) = some ((), ((if l.all (kpB i at') then (-1 : Int) else (((l.takeWhile (kpB i at')).length : Nat) : Int)), ())) := by
  have h1 : iterN (fun x : List Int × ((Int × (List Int × Unit)) × (Int × (Int × Unit))) => indexFunc_s2 x.1 x.2.1 x.2.2.1 x.2.2.2.1) fuN (l, (((i : Int), (at', ())), ((l.length : Int), ((0 : Int), ())))) = _ := index_loop hi hs hl l hb h0 l [] fuN rfl (by have := fuN_le; omega)
  simp only [indexFunc, h1, List.length_nil, Nat.zero_add]
  split <;> rfl
theorem del_loop (hi : i ≤ 100000000) (hs : at'.Pairwise (· ≤ ·)) (hl : at'.length ≤ 100000000) : ∀ (R W Mj : List Int) (n : Nat), W.length + Mj.length + R.length ≤ 100000000 → 0 < Mj.length → (∀ n ∈ R, 0 ≤ n) → R.length < n →
   ∃ M', iterN (fun x : List Int × ((Int × (List Int × Unit)) × (Int × (Int × Unit))) => deleteFunc_s6 x.1 x.2.1 x.2.2.1 x.2.2.2.1) n (W ++ Mj ++ R, (((i : Int), (at', ())), (((W.length : Nat) : Int), ((((W ++ Mj).length : Nat) : Int), ())))) = some (W ++ R.filter (kpB i at') ++ M', ((((W ++ R.filter (kpB i at')).length : Nat) : Int), ()))
  | [], W, Mj, 0, _, _, _, hn => by simp at hn
  | [], W, Mj, n + 1, hb, hM, h0, hn => by
   refine ⟨Mj, iterN_inr ?_⟩
   have hlt : ¬ (((W ++ Mj).length : Nat) : Int) < ((W ++ Mj).length : Int) := by omega
   simp only [deleteFunc_s6, List.filter_nil, List.append_nil, hlt, decide_false, cond_false, Option.bind_some]
  | a :: R, W, Mj, 0, _, _, _, hn => by simp at hn
  | a :: R, W, Mj, n + 1, hb, hM, h0, hn => by
   simp only [List.length_cons] at hb hn
   have hlt : (((W ++ Mj).length : Nat) : Int) < ((W ++ Mj ++ a :: R).length : Int) := lt_mid
   have hlk : lk (W ++ Mj ++ a :: R) (((W ++ Mj).length : Nat) : Int) = some a := lk_mid
   have hw : IntKind.i64.wrap ((((W ++ Mj).length : Nat) : Int) + 1) = (((W ++ Mj ++ [a]).length : Nat) : Int) := w_mid (by simp; omega)
   have ha : 0 ≤ a := h0 a (by simp)
   match Mj, hM with
   | m0 :: Mj, hM =>
   have hlk2 : lk (W ++ (m0 :: Mj) ++ a :: R) ((W.length : Nat) : Int) = some m0 := by rw [List.append_assoc, List.cons_append]; exact lk_mid
   cases hk : kpB i at' a with
   | true =>
    obtain ⟨M', h1⟩ := del_loop hi hs hl R (W ++ [a]) (Mj ++ [a]) n (by simp at hb ⊢; omega) (by simp) (fun n hn => h0 n (by simp [hn])) (by omega)
    refine ⟨M', ?_⟩
    rw [List.filter_cons_of_pos hk, app_mid (pre := W) (rest := R.filter (kpB i at')), ← h1]
    refine iterN_inl ?_
    have hset : (W ++ (m0 :: Mj) ++ a :: R).set W.length a = W ++ [a] ++ (Mj ++ [a]) ++ R := by
     rw [List.append_assoc, List.set_append_right _ _ (Nat.le_refl _), Nat.sub_self]; simp
    have hw2 : IntKind.i64.wrap (((W.length : Nat) : Int) + 1) = (((W ++ [a]).length : Nat) : Int) := w_mid (by simp at hb; omega)
    have hlen : (W ++ (m0 :: Mj) ++ [a]).length = (W ++ [a] ++ (Mj ++ [a])).length := by first | (simp; done) | (simp; omega)
    simp only [deleteFunc_s6, hlt, decide_true, cond_true, hlk, hlk2, Option.bind_some, phraseF_is hi hs hl ha, hk, Bool.not_true, Bool.not_false, hw, hw2, Int.toNat_natCast, hset, hlen]
   | false =>
    obtain ⟨M', h1⟩ := del_loop hi hs hl R W (m0 :: Mj ++ [a]) n (by simp at hb ⊢; omega) (by simp) (fun n hn => h0 n (by simp [hn])) (by omega)
    refine ⟨M', ?_⟩
    rw [List.filter_cons_of_neg (by simp [hk]), ← h1]
    refine iterN_inl ?_
    have e1 : W ++ (m0 :: Mj ++ [a]) ++ R = W ++ (m0 :: Mj) ++ a :: R := by simp
    have e2 : (W ++ (m0 :: Mj ++ [a])).length = (W ++ (m0 :: Mj) ++ [a]).length := by simp
    simp only [deleteFunc_s6, hlt, decide_true, cond_true, hlk, Option.bind_some, phraseF_is hi hs hl ha, hk, Bool.not_false, Bool.not_true, cond_false, hw, e1, e2]
theorem all_split {f : Int → Bool} : ∀ l : List Int, l.all f = false → ∃ a R, l = l.takeWhile f ++ a :: R ∧ f a = false
  | [], h => by cases h
  | a :: l, h => by
   cases hk : f a with
   | false => exact ⟨a, l, by simp [List.takeWhile, hk], hk⟩
   | true =>
    rw [List.all_cons, hk, Bool.true_and] at h
    obtain ⟨b, R, h1, h2⟩ := all_split l h
    refine ⟨b, R, ?_, h2⟩
    rw [List.takeWhile_cons_of_pos hk, List.cons_append, ← h1]
theorem takeWhile_filter {f : Int → Bool} : ∀ l : List Int, (l.takeWhile f).filter f = l.takeWhile f
  | [] => rfl
  | a :: l => by
   cases hk : f a with
   | false => simp [List.takeWhile, hk]
   | true => rw [List.takeWhile_cons_of_pos hk, List.filter_cons_of_pos hk, takeWhile_filter l]
theorem delete_is (hi : i ≤ 100000000) (hs : at'.Pairwise (· ≤ ·)) (hl : at'.length ≤ 100000000) (l : List Int) (hb : l.length ≤ 100000000) (h0 : ∀ n ∈ l, 0 ≤ n) : deleteFunc l ((i : Int), (at', ())) = some ((), (l.filter (kpB i at'), ())) := by
  simp only [deleteFunc, index_is hi hs hl l hb h0, Option.bind_some]
  cases hall : l.all (kpB i at') with
  | true =>
   simp only [if_true, beq_self_eq_true, cond_true, Option.bind_some]
   rw [List.filter_eq_self.2 fun a ha => List.all_eq_true.1 hall a ha]
  | false =>
   obtain ⟨a, R, e, hk⟩ := all_split l hall
   generalize hW : l.takeWhile (kpB i at') = W at *
   have hfW : W.filter (kpB i at') = W := by rw [← hW]; exact takeWhile_filter l
   have hne : (((W.length : Nat) : Int) == (-1 : Int)) = false := by first | (simp; done) | (simp; omega)
   have hlen : l.length = W.length + 1 + R.length := by rw [e]; simp; omega
   have hw : IntKind.i64.wrap (((W.length : Nat) : Int) + 1) = (((W ++ [a]).length : Nat) : Int) := w_mid (by omega)
   obtain ⟨M', h1⟩ := del_loop hi hs hl R W [a] fuN (by simp; omega) (by simp) (fun n hn => h0 n (by rw [e]; simp [hn])) (by have := fuN_le; omega)
   have e2 : W ++ [a] ++ R = l := by rw [e]; simp
   rw [e2] at h1
   have hfl : l.filter (kpB i at') = W ++ R.filter (kpB i at') := by
    conv => lhs; rw [e]
    rw [List.filter_append, hfW, List.filter_cons_of_neg (by simp [hk])]
   rw [hfl]
   generalize hg : W ++ R.filter (kpB i at') = G at *
   have hin : inB ((G.length : Nat) : Int) (((G ++ M').length : Nat) : Int) (((G ++ M').length : Nat) : Int) = true := by
    simp only [inB, Bool.and_eq_true, decide_eq_true_eq, List.length_append]; omega
   have hsub : (((((G ++ M').length : Nat) : Int)) - ((G.length : Nat) : Int)).toNat = M'.length := by simp; omega
   have hcl : clrL (G ++ M') G.length M'.length (0 : Int) = G ++ List.replicate M'.length 0 := by
    simp [clrL]
   have hin2 : inB (0 : Int) ((G.length : Nat) : Int) (((G ++ List.replicate M'.length (0 : Int)).length : Nat) : Int) = true := by
    simp only [inB, Bool.and_eq_true, decide_eq_true_eq, List.length_append]; omega
   simp only [Bool.false_eq_true, if_false, hne, cond_false, Option.bind_some, hw, h1, hin, cond_true, Int.toNat_natCast, hsub, hcl, hin2]
   simp
end
end Go.Vu.Mg
namespace Go.Vu.Mg
open Go Go.Vu Go.Sort Go.Vu.Srt
theorem own_set {q : Pl} {D rest : List Tr} {t : Tr} (h : OwnT q (D ++ t :: rest)) (u : List Int) : OwnT (q.set t.2.1 (some u)) (D ++ (t.1, t.2.1, u) :: rest) := by
  have hnd := h.nd
  simp only [List.map_append, List.map_cons] at hnd
  refine ⟨fun x hx => ?_, by simp only [List.map_append, List.map_cons]; exact hnd⟩
  rw [List.nodup_append] at hnd
  obtain ⟨h1, h2, h3⟩ := hnd
  have old : x ∈ D ∨ x ∈ rest → (q.set t.2.1 (some u))[x.2.1]? = some (some x.2.2) := fun hx => by
   have hm : x ∈ D ++ t :: rest := by rcases hx with hx | hx <;> simp [hx]
   have hne : t.2.1 ≠ x.2.1 := fun e => by
    rcases hx with hx | hx
    ·exact h3 x.2.1 (List.mem_map_of_mem hx) t.2.1 (by simp) e.symm
    ·exact (List.nodup_cons.1 h2).1 (by rw [e]; exact List.mem_map_of_mem hx)
   rw [List.getElem?_set_ne hne]
   exact h.at' x hm
  rcases List.mem_append.1 hx with hx | hx
  ·exact old (.inl hx)
  ·rcases List.mem_cons.1 hx with rfl | hx
   ·exact List.getElem?_set_self (idx_lt h (t := t) (by simp))
   ·exact old (.inr hx)
theorem own_del {q : Pl} {D rest : List Tr} {t : Tr} (h : OwnT q (D ++ t :: rest)) : OwnT (q.set t.2.1 none) (D ++ rest) := by
  have h1 := own_step h 0 []
  have hs : (D ++ rest).Sublist (D ++ ((0 : Int), q.length, ([] : List Int)) :: rest) := (List.Sublist.refl D).append (List.sublist_cons_self _ _)
  have h2 := own_sub h1 hs
  refine ⟨fun x hx => ?_, h2.nd⟩
  have h3 := h2.at' x hx
  have hm : x ∈ D ++ t :: rest := ((List.Sublist.refl D).append (List.sublist_cons_self t rest)).subset hx
  rwa [List.getElem?_append_left (by rw [List.length_set]; exact idx_lt h hm)] at h3
abbrev atH (T2 : List Tr) (d : Int) : HH := (mget (T2.map rwT) d).getD none
theorem sort_at {q1 : Pl} {T2 : List Tr} (h : OwnT q1 T2) (hl : ∀ t ∈ T2, t.2.2.length ≤ 100000000) (hd : (T2.map (·.1)).Nodup) (d : Int) :
   ∃ s T2', sortI (hgetD q1 (atH T2 d)) = some (s, ()) ∧ s.Pairwise (· ≤ ·) ∧ s.length ≤ 100000000 ∧ (∀ k, k ∈ s ↔ Has T2 d k) ∧ T2'.map rwT = T2.map rwT ∧ OwnT (hset q1 (atH T2 d) (some s)) T2' ∧ (∀ d k, Has T2' d k ↔ Has T2 d k) ∧
    hok q1 (atH T2 d) = true ∧ hall q1 (atH T2 d) = true ∧ hok (hset q1 (atH T2 d) (some s)) (atH T2 d) = true ∧ hgetD (hset q1 (atH T2 d) (some s)) (atH T2 d) = s ∧ (∀ t ∈ T2', t.2.2.length ≤ 100000000) ∧ T2'.map (·.1) = T2.map (·.1) := by
  rcases split_doc d T2 with hs | ⟨D, t, rest, rfl, ht, hs⟩
  ·have hh : atH T2 d = none := by unfold atH; rw [mget_none hs]; rfl
   rw [hh]
   obtain ⟨s, e1, e2, e3⟩ := sortI_spec [] (by simp)
   have : s = [] := List.perm_nil.1 e2
   subst this
   exact ⟨[], T2, e1, e3, by simp, fun k => ⟨fun h => (by cases h), fun ⟨t, h1, h2, _⟩ => absurd h2 (hs t h1)⟩, rfl, h, fun _ _ => Iff.rfl, rfl, rfl, rfl, rfl, hl, rfl⟩
  ·have hm : t ∈ D ++ t :: rest := by simp
   have hh : atH (D ++ t :: rest) d = (rwT t).2 := by unfold atH; rw [mget_some ht hs]; rfl
   rw [hh]
   obtain ⟨s, e1, e2, e3⟩ := sortI_spec t.2.2 (hl t hm)
   have hlen : s.length = t.2.2.length := e2.length_eq
   have hlt := idx_lt h hm
   have hset' : hset q1 (rwT t).2 (some s) = q1.set t.2.1 (some s) := rfl
   have g0 : hget (q1.set t.2.1 (some s)) (rwT t).2 = some s := by
    simp only [rwT, hget, List.getElem?_set_self hlt, List.drop_zero, ← hlen, List.take_length]
   refine ⟨s, D ++ (t.1, t.2.1, s) :: rest, by rw [hgetD_own h hm]; exact e1, e3, by rw [hlen]; exact hl t hm, fun k => ?_, ?_, own_set h s, fun d' k => ?_, hok_own h hm, ?_, ?_, ?_, fun x hx => ?_, by simp⟩
   ·rw [e2.mem_iff]
    constructor
    ·intro hk; exact ⟨t, hm, ht, hk⟩
    ·rintro ⟨x, hx, h1, h2⟩
     have : x = t := by
      have hn := hd
      simp only [List.map_append, List.map_cons] at hn
      rw [List.nodup_append] at hn
      obtain ⟨n1, n2, n3⟩ := hn
      rcases List.mem_append.1 hx with hx | hx
      ·exact absurd h1 (hs x hx)
      ·rcases List.mem_cons.1 hx with e | hx
       ·exact e
       ·exact absurd (List.mem_map.2 ⟨x, hx, h1.trans ht.symm⟩) (List.nodup_cons.1 n2).1
     rw [this] at h2; exact h2
   ·simp only [List.map_append, List.map_cons, rwT, hlen]
   ·unfold Has
    constructor
    ·rintro ⟨x, hx, h1, h2⟩
     rcases List.mem_append.1 hx with hx | hx
     ·exact ⟨x, by simp [hx], h1, h2⟩
     ·rcases List.mem_cons.1 hx with rfl | hx
      ·exact ⟨t, hm, h1, e2.mem_iff.1 h2⟩
      ·exact ⟨x, by simp [hx], h1, h2⟩
    ·rintro ⟨x, hx, h1, h2⟩
     rcases List.mem_append.1 hx with hx | hx
     ·exact ⟨x, by simp [hx], h1, h2⟩
     ·rcases List.mem_cons.1 hx with rfl | hx
      ·exact ⟨_, List.mem_append_right _ (List.mem_cons_self ..), h1, e2.mem_iff.2 h2⟩
      ·exact ⟨x, by simp [hx], h1, h2⟩
   ·simp only [rwT, hall, h.at' t hm, Nat.beq_refl, Bool.and_self]
   ·rw [hset']; unfold hok; rw [g0]
   ·rw [hset']; unfold hgetD; rw [g0]
   ·rcases List.mem_append.1 hx with hx | hx
    ·exact hl x (by simp [hx])
    ·rcases List.mem_cons.1 hx with rfl | hx
     ·have := hl t hm; simp only; omega
     ·exact hl x (by simp [hx])
def fR (kp : Int → Int → Bool) (R : List Pst) : List Pst := (R.map fun p => (p.1, p.2.filter (kp p.1))).filter fun p => !p.2.isEmpty
theorem fR_cons (kp : Int → Int → Bool) (p : Pst) (R : List Pst) : fR kp (p :: R) = (if p.2.filter (kp p.1) = [] then [] else [(p.1, p.2.filter (kp p.1))]) ++ fR kp R := by
  unfold fR
  rw [List.map_cons]
  by_cases h : p.2.filter (kp p.1) = []
  ·rw [List.filter_cons_of_neg (by simp [h]), if_pos h]; rfl
  ·rw [List.filter_cons_of_pos (by simp [h]), if_neg h]; rfl
theorem m0_fR {kp : Int → Int → Bool} {R : List Pst} {d n : Int} : M0 (fR kp R) d n ↔ M0 R d n ∧ kp d n = true := by
  unfold M0 fR
  constructor
  ·rintro ⟨p, h1, rfl, h3⟩
   obtain ⟨x, hx, rfl⟩ := List.mem_map.1 (List.mem_filter.1 h1).1
   obtain ⟨h4, h5⟩ := List.mem_filter.1 h3
   exact ⟨⟨x, hx, rfl, h4⟩, h5⟩
  ·rintro ⟨⟨p, h1, rfl, h3⟩, h5⟩
   have hm : n ∈ p.2.filter (kp p.1) := List.mem_filter.2 ⟨h3, h5⟩
   refine ⟨(p.1, p.2.filter (kp p.1)), List.mem_filter.2 ⟨List.mem_map.2 ⟨p, h1, rfl⟩, ?_⟩, rfl, hm⟩
   have := List.ne_nil_of_mem hm
   simp [this]
theorem nm_fR {kp : Int → Int → Bool} {R : List Pst} (h : Nm R) : Nm (fR kp R) := by
  have hd : (R.map fun p => (p.1, p.2.filter (kp p.1))).Pairwise fun p q => p.1 < q.1 := List.pairwise_map.2 h.docs
  refine ⟨hd.sublist List.filter_sublist, fun p hp => ?_⟩
  obtain ⟨h1, h2⟩ := List.mem_filter.1 hp
  obtain ⟨x, hx, rfl⟩ := List.mem_map.1 h1
  obtain ⟨r1, r2, r3, r4⟩ := h.row x hx
  refine ⟨r1, ?_, r3.sublist List.filter_sublist, fun n hn => r4 n (List.mem_filter.1 hn).1⟩
  intro e
  rw [e] at h2
  cases h2
abbrev XPh := (Int × (List Rw × (List Rw × (List (List Pst) × (Int × (Int × (List Rw × (Int × (Int × Unit))))))))) × (Pl × (Pl × Unit))
noncomputable abbrev gPh (x : XPh) := phrase_s11 x.1.1 x.1.2.1 x.1.2.2.1 x.1.2.2.2.1 x.1.2.2.2.2.1 x.1.2.2.2.2.2.1 x.1.2.2.2.2.2.2.1 x.1.2.2.2.2.2.2.2.1 x.1.2.2.2.2.2.2.2.2.1 x.2.1 x.2.2.1
theorem ph_in {i : Nat} (hi : i ≤ 100000000) (ls : List (List Pst)) (i1 i2 : Int) (T : List Tr) (hT : T.length ≤ 10000000) (a6 : List Rw) (kp : Int → Int → Bool) : ∀ (rest pre D : List Tr) (q0 q1 : Pl) (T2 : List Tr) (n : Nat), T = pre ++ rest → OwnT q0 (D ++ rest) → D.length ≤ pre.length → OwnT q1 T2 → T2.map rwT = a6 → (T2.map (·.1)).Nodup → (∀ t ∈ T2, t.2.2.length ≤ 100000000) →
   (∀ d n, kp d n = true ↔ n ≤ 9223372036854775807 - (i : Int) - 1 ∧ Has T2 d (n + (i : Int) + 1)) → (∀ t ∈ rest, t.2.2.length ≤ 100000000 ∧ ∀ n ∈ t.2.2, 0 ≤ n) → rest.length < n →
   ∃ D2 q0' q1', iterN gPh n (((i : Int), (a6, (D.map rwT, (ls, (i1, (i2, (T.map rwT, (((T.map rwT).length : Int), (((pre.length : Nat) : Int), ()))))))))), (q0, (q1, ()))) = some ((D2.map rwT, (ls, (i1, (i2, ())))), (q0', (q1', ()))) ∧ OwnT q0' D2 ∧ D2.map pst = D.map pst ++ fR kp (rest.map pst)
  | [], pre, D, q0, q1, T2, 0, _, _, _, _, _, _, _, _, _, hn => by simp at hn
  | [], pre, D, q0, q1, T2, n + 1, he, ho, hD, h2, e6, hd, hl, hk, hr, hn => by
   rw [List.append_nil] at he ho
   subst he
   refine ⟨D, q0, q1, iterN_inr ?_, ho, by simp [fR]⟩
   have hlt : ¬ ((T.length : Nat) : Int) < ((T.map rwT).length : Int) := by simp
   simp only [gPh, phrase_s11, hlt, decide_false, cond_false]
  | t :: rest, pre, D, q0, q1, T2, 0, _, _, _, _, _, _, _, _, _, hn => by simp at hn
  | t :: rest, pre, D, q0, q1, T2, n + 1, he, ho, hD, h2, e6, hd, hl, hk, hr, hn => by
   have hT' := hT
   rw [he] at hT'
   simp only [List.length_append, List.length_cons] at hT' hn
   have hlt : ((pre.length : Nat) : Int) < ((T.map rwT).length : Int) := by rw [he]; simp; omega
   have hlk : lk (T.map rwT) ((pre.length : Nat) : Int) = some (rwT t) := by
    rw [he, List.map_append, List.map_cons]
    have := lk_mid (pre := pre.map rwT) (rest := rest.map rwT) (x := rwT t)
    rwa [List.length_map] at this
   have hw : IntKind.i64.wrap (((pre.length : Nat) : Int) + 1) = (((pre ++ [t]).length : Nat) : Int) := w_mid (by omega)
   obtain ⟨s, T2', s1, s2, s3, s4, s5, s6, s7, s8, s9, s10, s11, s12, s13⟩ := sort_at h2 hl hd t.1
   obtain ⟨hr1, hr2⟩ := hr t (by simp)
   have hm : t ∈ D ++ t :: rest := by simp
   have k1 : hok q0 (rwT t).2 = true := hok_own ho hm
   have k2 : hgetD q0 (rwT t).2 = t.2.2 := hgetD_own ho hm
   have hf : t.2.2.filter (kpB i s) = t.2.2.filter (kp t.1) := List.filter_congr fun n _ => by
    rw [Bool.eq_iff_iff, hk, ← s4]
    simp [kpB]
   have k3 : deleteFunc t.2.2 ((i : Int), (s, ())) = some ((), (t.2.2.filter (kp t.1), ())) := by rw [← hf]; exact delete_is hi s2 s3 t.2.2 hr1 hr2
   have hk' : ∀ d n, kp d n = true ↔ n ≤ 9223372036854775807 - (i : Int) - 1 ∧ Has T2' d (n + (i : Int) + 1) := fun d n => by rw [hk, s7]
   have e6' : T2'.map rwT = a6 := s5.trans e6
   have hset' : hset q0 (rwT t).2 none = q0.set t.2.1 none := rfl
   have hdoc : (rwT t).1 = t.1 := rfl
   have hat : (mget a6 t.1).getD none = atH T2 t.1 := by rw [← e6]
   by_cases hz : t.2.2.filter (kp t.1) = []
   ·obtain ⟨D2, q0', q1', g1, g2, g3⟩ := ph_in hi ls i1 i2 T hT a6 kp rest (pre ++ [t]) D (q0.set t.2.1 none) _ T2' n (by rw [he]; exact app_mid) (own_del ho) (by simp; omega) s6 e6' (by rw [s13]; exact hd) s12 hk' (fun x hx => hr x (by simp [hx])) (by omega)
    refine ⟨D2, q0', q1', ?_, g2, ?_⟩
    ·rw [← g1]
     refine iterN_inl ?_
     have hc : ¬ (((([] : List Int).length : Nat) : Int) > 0) := by simp
     simp only [gPh, phrase_s11, hlt, decide_true, cond_true, hlk, Option.bind_some, hdoc, hat, s8, s9, s1, s10, s11, k1, k2, k3, hz, hc, decide_false, cond_false, Bool.and_self, hset', hw]
    ·rw [g3, List.map_cons, fR_cons, if_pos (show (pst t).2.filter (kp (pst t).1) = [] from hz)]; rfl
   ·have ho' := own_step ho t.1 (t.2.2.filter (kp t.1))
    rw [app_mid (pre := D) (rest := rest)] at ho'
    obtain ⟨D2, q0', q1', g1, g2, g3⟩ := ph_in hi ls i1 i2 T hT a6 kp rest (pre ++ [t]) (D ++ [(t.1, q0.length, t.2.2.filter (kp t.1))]) _ _ T2' n (by rw [he]; exact app_mid) ho' (by simp; omega) s6 e6' (by rw [s13]; exact hd) s12 hk' (fun x hx => hr x (by simp [hx])) (by omega)
    refine ⟨D2, q0', q1', ?_, g2, ?_⟩
    ·rw [← g1]
     refine iterN_inl ?_
     have hc : (((t.2.2.filter (kp t.1)).length : Nat) : Int) > 0 := by have := List.length_pos_iff.2 hz; omega
     have hroom : roomOk ((D.map rwT).length + [((t.1, (some ((q0.set t.2.1 none).length, 0, (t.2.2.filter (kp t.1)).length) : HH)) : Rw)].length) 32 = true := room32 (by simp; omega)
     simp only [gPh, phrase_s11, hlt, decide_true, cond_true, hlk, Option.bind_some, hdoc, hat, s8, s9, s1, s10, s11, k1, k2, k3, hc, Bool.and_self, hset', hw, hroom]
     simp [rwT]
    ·rw [g3, List.map_cons, fR_cons, if_neg (show ¬ (pst t).2.filter (kp (pst t).1) = [] from hz)]
     simp [pst]
theorem has_sh {T : List Tr} {k : Nat} {d n : Int} : Has (T.map (shT k)) d n ↔ Has T d n := by
  unfold Has
  constructor
  ·rintro ⟨x, hx, h1, h2⟩
   obtain ⟨t, ht, rfl⟩ := List.mem_map.1 hx
   exact ⟨t, ht, h1, h2⟩
  ·rintro ⟨t, ht, h1, h2⟩
   exact ⟨shT k t, List.mem_map_of_mem ht, h1, h2⟩
theorem mem_cnL : ∀ {R : List Pst} {p : Pst}, p ∈ R → p.2.length ≤ cnL R
  | x :: R, p, h => by
   simp only [cnL, List.map_cons, List.sum_cons]
   rcases List.mem_cons.1 h with rfl | h
   ·omega
   ·have := mem_cnL h; simp only [cnL] at this; omega
abbrev XPo := (List Rw × (List (List Pst) × (Int × (Int × Unit)))) × (Pl × (Pl × Unit))
noncomputable abbrev gPo (x : XPo) := phrase_s6 x.1.1 x.1.2.1 x.1.2.2.1 x.1.2.2.2.1 x.2.1 x.2.2.1
theorem ph_out (ls : List (List Pst)) (hls : ls.length ≤ 10000000) (hsm : ∀ l ∈ ls, Small l) : ∀ (rest pre : List (List Pst)) (T : List Tr) (q0 q1 : Pl) (n : Nat), ls = pre ++ rest → OwnT q0 T → Nm (T.map pst) → cnL (T.map pst) ≤ 10000000 → rest.length < n →
   ∃ T' q0' q1', iterN gPo n ((T.map rwT, (ls, ((ls.length : Int), (((pre.length : Nat) : Int), ())))), (q0, (q1, ()))) = some ((T'.map rwT, ()), (q0', (q1', ()))) ∧ OwnT q0' T' ∧ Nm (T'.map pst) ∧
    ∀ d n, M0 (T'.map pst) d n ↔ M0 (T.map pst) d n ∧ ∀ (j : Nat) l, rest[j]? = some l → n ≤ 9223372036854775807 - ((pre.length + j : Nat) : Int) - 1 ∧ M l d (n + ((pre.length + j : Nat) : Int) + 1)
  | [], pre, T, q0, q1, 0, _, _, _, _, hn => by simp at hn
  | [], pre, T, q0, q1, n + 1, he, ho, hN, hc, hn => by
   refine ⟨T, q0, q1, iterN_inr ?_, ho, hN, fun d n => by simp⟩
   have hlt : ¬ ((pre.length : Nat) : Int) < (ls.length : Int) := by rw [he]; simp
   simp only [gPo, phrase_s6, hlt, decide_false, cond_false]
  | l :: rest, pre, T, q0, q1, 0, _, _, _, _, hn => by simp at hn
  | l :: rest, pre, T, q0, q1, n + 1, he, ho, hN, hc, hn => by
   have hls' := hls
   rw [he] at hls'
   simp only [List.length_append, List.length_cons] at hls' hn
   have hlt : ((pre.length : Nat) : Int) < (ls.length : Int) := by rw [he]; exact lt_mid
   have hlk : lk ls ((pre.length : Nat) : Int) = some l := by rw [he]; exact lk_mid
   have hw : IntKind.i64.wrap (((pre.length : Nat) : Int) + 1) = (((pre ++ [l]).length : Nat) : Int) := w_mid (by omega)
   obtain ⟨T2, q2, b1, b2, b3, b4⟩ := byDoc_is l (hsm l (by rw [he]; simp))
   have hlen : T.length ≤ 10000000 := by
    have := nm_length (R := T.map pst) fun p hp => (hN.row p hp).2.1
    simp only [List.length_map] at this; omega
   obtain ⟨kp, hkp⟩ : ∃ kp : Int → Int → Bool, ∀ d n, kp d n = true ↔ n ≤ 9223372036854775807 - (pre.length : Int) - 1 ∧ Has (T2.map (shT q1.length)) d (n + (pre.length : Int) + 1) := by
    classical
    exact ⟨fun d n => decide (n ≤ 9223372036854775807 - (pre.length : Int) - 1 ∧ Has (T2.map (shT q1.length)) d (n + (pre.length : Int) + 1)), fun d n => decide_eq_true_iff⟩
   obtain ⟨D2, q0', q1', g1, g2, g3⟩ := ph_in (i := pre.length) (by omega) ls (ls.length : Int) ((pre.length : Nat) : Int) T hlen ((T2.map (shT q1.length)).map rwT) kp T [] [] q0 (q1 ++ q2) (T2.map (shT q1.length)) fuN rfl ho (Nat.le_refl _) (own_sh b2.own q1) rfl (by rw [List.map_map]; exact b2.nd) (fun t ht => by
     obtain ⟨x, hx, rfl⟩ := List.mem_map.1 ht
     have := mem_tot hx; simp only [shT]; omega) hkp (fun t ht => by
     have hm : pst t ∈ T.map pst := List.mem_map_of_mem ht
     have := mem_cnL hm
     exact ⟨by simp only [pst] at this; omega, (hN.row _ hm).2.2.2⟩) (by have := fuN_le; omega)
   rw [List.map_nil, List.nil_append] at g3
   have hN' : Nm (D2.map pst) := by rw [g3]; exact nm_fR hN
   have hc' : cnL (D2.map pst) ≤ 10000000 := Nat.le_trans (nm_cnL hN' fun d n h => by rw [g3, m0_fR] at h; exact h.1) hc
   obtain ⟨T', q0'', q1'', k1, k2, k3, k4⟩ := ph_out ls hls hsm rest (pre ++ [l]) D2 q0' q1' n (by rw [he]; exact app_mid) g2 hN' hc' (by omega)
   refine ⟨T', q0'', q1'', ?_, k2, k3, fun d m => ?_⟩
   ·rw [← k1]
    refine iterN_inl ?_
    have g1' : iterN (fun x : XPh => phrase_s11 x.1.1 x.1.2.1 x.1.2.2.1 x.1.2.2.2.1 x.1.2.2.2.2.1 x.1.2.2.2.2.2.1 x.1.2.2.2.2.2.2.1 x.1.2.2.2.2.2.2.2.1 x.1.2.2.2.2.2.2.2.2.1 x.2.1 x.2.2.1) fuN ((((pre.length : Nat) : Int), ((T2.map (shT q1.length)).map rwT, ([], (ls, ((ls.length : Int), (((pre.length : Nat) : Int), (T.map rwT, (((T.map rwT).length : Int), ((0 : Int), ()))))))))), (q0, (q1 ++ q2, ()))) = some ((D2.map rwT, (ls, ((ls.length : Int), (((pre.length : Nat) : Int), ())))), (q0', (q1', ()))) := g1
    simp only [gPo, phrase_s6, hlt, decide_true, cond_true, hlk, Option.bind_some, byDoc1_is, b1, shL_id, sh_rows, g1', hw]
   ·rw [k4, g3, m0_fR, hkp, has_sh, b4]
    constructor
    ·rintro ⟨⟨h1, h2, h3⟩, h4⟩
     refine ⟨h1, fun j l' hj => ?_⟩
     cases j with
     | zero => cases hj; exact ⟨by simpa using h2, by simpa using h3⟩
     | succ j =>
      have := h4 j l' hj
      rw [show (pre ++ [l]).length + j = pre.length + (j + 1) by simp; omega] at this
      exact this
    ·rintro ⟨h1, h2⟩
     refine ⟨⟨h1, ?_⟩, fun j l' hj => ?_⟩
     ·have := h2 0 l rfl
      simpa using this
     ·have := h2 (j + 1) l' hj
      rw [show (pre ++ [l]).length + j = pre.length + (j + 1) by simp; omega]
      exact this
def PhS : List (List Pst) → Int → Int → Prop
  | [], _, _ => False
  | l :: ls, d, n => M l d n ∧ ∀ (j : Nat) l', ls[j]? = some l' → n ≤ 9223372036854775807 - (j : Int) - 1 ∧ M l' d (n + (j : Int) + 1)
theorem nm_nil : Nm [] := ⟨List.Pairwise.nil, fun p h => (by cases h)⟩
theorem phrase_spec (ls : List (List Pst)) (hls : ls.length ≤ 10000000) (hsm : ∀ l ∈ ls, Small l) : ∃ R, Spec (PhS ls) (phrase ls) R := by
  cases ls with
  | nil =>
   obtain ⟨q', T', g1, g2, g3⟩ := cn_any (q := []) (T := []) ⟨fun t h => (by cases h), List.nodup_nil⟩
   refine ⟨[], ⟨q', T', ?_, g2, g3⟩, nm_nil, fun d n => by simp [M0, PhS]⟩
   rw [← g1]
   rfl
  | cons l ls =>
   simp only [List.length_cons] at hls
   obtain ⟨R, hR⟩ := norm_spec l (hsm l (by simp))
   have hlen := (spec_len (l := l) hR fun d n h => h.2.2).2
   obtain ⟨⟨q, T, c1, c2, c3⟩, hN, hm⟩ := hR
   have hsh := own_sh c2 []
   have hp : (T.map (shT 0)).map pst = R := by rw [shT_pst, c3]
   obtain ⟨T', q0', q1', k1, k2, k3, k4⟩ := ph_out ls (by omega) (fun x hx => hsm x (by simp [hx])) ls [] (T.map (shT 0)) q [] fuN rfl (by simpa using hsh) (by rw [hp]; exact hN) (by rw [hp]; have := (hsm l (by simp)).2; omega) (by have := fuN_le; omega)
   obtain ⟨q'', T'', g1, g2, g3⟩ := cn_any k2
   refine ⟨T'.map pst, ⟨q'', T'', ?_, g2, g3⟩, k3, fun d n => ?_⟩
   ·have hz : (((l :: ls).length : Int) == (0 : Int)) = false := by first | (simp; done) | (simp; omega)
    have hin : inB (1 : Int) ((l :: ls).length : Int) (l :: ls).length = true := by
     simp only [inB, Bool.and_eq_true, decide_eq_true_eq, List.length_cons]; omega
    have hcut : cut (l :: ls) (1 : Int) ((l :: ls).length : Int) = ls := by
     have e1 : (((l :: ls).length : Int) - 1).toNat = ls.length := by simp
     unfold cut
     rw [e1]
     simp
    have h0 : lk (l :: ls) (0 : Int) = some l := rfl
    have k1' : iterN (fun x : XPo => phrase_s6 x.1.1 x.1.2.1 x.1.2.2.1 x.1.2.2.2.1 x.2.1 x.2.2.1) fuN (((T.map (shT 0)).map rwT, (ls, ((ls.length : Int), ((0 : Int), ())))), (q, ([], ()))) = some ((T'.map rwT, ()), (q0', (q1', ()))) := k1
    simp only [phrase, hz, cond_false, Option.bind_some, h0, c1, hin, cond_true, shL_id, sh_rows, List.length_nil, List.nil_append, hcut, k1']
    rw [← g1]
   ·rw [k4, hp, hm]
    simp only [PhS, List.length_nil, Nat.zero_add]
end Go.Vu.Mg
namespace Go.Vu.Mg
open Go Go.Vu Go.Sort Go.Vu.Srt
theorem it_for {α X Y : Type} {f : X → Option (X ⊕ Y)} (st : List α → X) (l : List α) (y : Y) (hs : ∀ pre a rest, l = pre ++ a :: rest → f (st pre) = some (.inl (st (pre ++ [a])))) (he : f (st l) = some (.inr y)) : ∀ (rest pre : List α) (n : Nat), l = pre ++ rest → rest.length < n → iterN f n (st pre) = some y
  | [], pre, 0, _, hn => by simp at hn
  | [], pre, n + 1, e, _ => by rw [List.append_nil] at e; subst e; exact iterN_inr he
  | a :: rest, pre, 0, _, hn => by simp at hn
  | a :: rest, pre, n + 1, e, hn => by
   rw [iterN_inl (hs pre a rest e)]
   exact it_for st l y hs he rest (pre ++ [a]) n (by rw [e]; exact app_mid) (by simp only [List.length_cons] at hn; omega)
theorem it_for' {α X Y : Type} {f : X → Option (X ⊕ Y)} (st : List α → X) (l : List α) (y : Y) (hl : l.length ≤ 1000000000) (hs : ∀ pre a rest, l = pre ++ a :: rest → f (st pre) = some (.inl (st (pre ++ [a])))) (he : f (st l) = some (.inr y)) {x0 : X} (h0 : st [] = x0) : iterN f fuN x0 = some y := by
  rw [← h0]; exact it_for st l y hs he l [] fuN rfl (by have := fuN_le; omega)
theorem pre_le {α : Type} {l pre rest : List α} {a : α} (h : l = pre ++ a :: rest) : pre.length + 1 ≤ l.length := by rw [h]; simp only [List.length_append, List.length_cons]; omega
theorem last_lt {r : List Int} {z n : Int} (hr : (r ++ [z]).Pairwise (· < ·)) (h : z < n) : (r ++ [z] ++ [n]).Pairwise (· < ·) := by
  rw [List.pairwise_append]
  refine ⟨hr, List.pairwise_singleton _ _, fun x hx y hy => ?_⟩
  simp only [List.mem_singleton] at hy
  subst hy
  rcases List.mem_append.1 hx with hx | hx
  ·have := (List.pairwise_append.1 hr).2.2 x hx z (by simp)
   omega
  ·simp only [List.mem_singleton] at hx; omega
abbrev fM (x : List Int × (List Int × (List Int × (Int × (Int × Unit))))) := refSorted0_s8 x.1 x.2.1 x.2.2.1 x.2.2.2.1 x.2.2.2.2.1
theorem put_last (r : List Int) (n : Int) (hr : r.Pairwise (· < ·)) (hle : ∀ x ∈ r, x ≤ n) (hb : r.length ≤ 100000000) :
   ∃ r', r'.Pairwise (· < ·) ∧ (∀ x, x ∈ r' ↔ x ∈ r ∨ x = n) ∧ r'.length ≤ r.length + 1 ∧ ∀ (A B : List Int) (i j : Int),
    (Option.bind (show Option (List Int × (List Int × (List Int × (Int × (Int × (Int × (Bool × Unit))))))) from
     bif ((r.length : Int) == (0 : Int)) then some (A, (B, (r, (i, (j, (n, (true, ())))))))
     else
     (Option.bind (lk r (IntKind.i64.wrap ((r.length : Int) - (1 : Int)))) fun _x20 =>
     (Option.bind (lk r (IntKind.i64.wrap ((r.length : Int) - (1 : Int)))) fun x21 =>
     some (A, (B, (r, (i, (j, (n, ((x21 != n), ())))))))))) fun y22 =>
     bif y22.2.2.2.2.2.2.1 then
     bif (roomOk (y22.2.2.1.length + [y22.2.2.2.2.2.1].length) 8) then
     some (.inl (y22.1, (y22.2.1, ((y22.2.2.1 ++ [y22.2.2.2.2.2.1]), (y22.2.2.2.1, (y22.2.2.2.2.1, ()))))))
     else none
     else
     some (.inl (y22.1, (y22.2.1, (y22.2.2.1, (y22.2.2.2.1, (y22.2.2.2.2.1, ()))))))) = (some (.inl (A, (B, (r', (i, (j, ()))))) ) : Option ((List Int × (List Int × (List Int × (Int × (Int × Unit))))) ⊕ (List Int × Unit))) := by
  have hroom : roomOk (r.length + [n].length) 8 = true := room8 (by simp; omega)
  rcases List.eq_nil_or_concat r with rfl | ⟨r0, z, hcc⟩
  rotate_left
  rw [List.concat_eq_append] at hcc
  subst hcc
  rotate_left
  ·refine ⟨[n], List.pairwise_singleton _ _, fun x => by simp, by simp, fun A B i j => ?_⟩
   simp only [List.length_nil, show (((0 : Nat) : Int) == (0 : Int)) = true from rfl, cond_true, Option.bind_some, List.nil_append]
   rw [show roomOk (0 + [n].length) 8 = true from hroom]; rfl
  ·have hz : ((((r0 ++ [z]).length : Nat) : Int) == (0 : Int)) = false := by
    rw [List.length_append, List.length_singleton]; first | (simp; done) | (simp; omega)
   have hw : IntKind.i64.wrap ((((r0 ++ [z]).length : Nat) : Int) - 1) = ((r0.length : Nat) : Int) := w_last (by simp at hb; omega)
   have hlk : lk (r0 ++ [z]) ((r0.length : Nat) : Int) = some z := lk_mid
   by_cases e : z = n
   ·subst e
    refine ⟨r0 ++ [z], hr, fun x => by simp, by omega, fun A B i j => ?_⟩
    simp only [hz, cond_false, hw, hlk, Option.bind_some, bne_self_eq_false]
   ·have hzn : z < n := by have := hle z (by simp); omega
    refine ⟨r0 ++ [z] ++ [n], last_lt hr hzn, fun x => by simp [or_assoc], by simp, fun A B i j => ?_⟩
    have hb' : (z != n) = true := by simp [e]
    simp only [hz, cond_false, hw, hlk, Option.bind_some, hb', cond_true, hroom]
theorem merge_loop : ∀ (k : Nat) (ra rb pa pb r : List Int) (n : Nat), k = ra.length + rb.length → ra.Pairwise (· < ·) → rb.Pairwise (· < ·) → (∀ x ∈ r, (∀ y ∈ ra, x ≤ y) ∧ ∀ y ∈ rb, x ≤ y) → r.Pairwise (· < ·) → pa.length + ra.length ≤ 100000000 → pb.length + rb.length ≤ 100000000 → r.length + k ≤ 100000000 → k < n →
   ∃ s, iterN fM n (pa ++ ra, (pb ++ rb, (r, (((pa.length : Nat) : Int), (((pb.length : Nat) : Int), ()))))) = some (s, ()) ∧ s.Pairwise (· < ·) ∧ ∀ x, x ∈ s ↔ x ∈ r ∨ x ∈ ra ∨ x ∈ rb := by
  intro k
  induction k with
  | zero =>
   intro ra rb pa pb r n hk ha hb hr hs h1 h2 h3 hn
   have ea : ra = [] := List.eq_nil_of_length_eq_zero (by omega)
   have eb : rb = [] := List.eq_nil_of_length_eq_zero (by omega)
   subst ea eb
   cases n with
   | zero => omega
   | succ n =>
    refine ⟨r, iterN_inr ?_, hs, fun x => by simp⟩
    have c1 : ¬ ((pa.length : Nat) : Int) < ((pa ++ []).length : Int) := by simp
    have c2 : ¬ ((pb.length : Nat) : Int) < ((pb ++ []).length : Int) := by simp
    simp only [fM, refSorted0_s8, c1, c2, decide_false, cond_false, Option.bind_some]
  | succ k ih =>
   intro ra rb pa pb r n hk ha hb hr hs h1 h2 h3 hn
   cases n with
   | zero => omega
   | succ n =>
    have takeA : ∀ a ra', ra = a :: ra' → (∀ y ∈ rb, a ≤ y) → (rb = [] ∨ ∃ b rb', rb = b :: rb') → ∃ s, iterN fM (n + 1) (pa ++ ra, (pb ++ rb, (r, (((pa.length : Nat) : Int), (((pb.length : Nat) : Int), ()))))) = some (s, ()) ∧ s.Pairwise (· < ·) ∧ ∀ x, x ∈ s ↔ x ∈ r ∨ x ∈ ra ∨ x ∈ rb := by
     intro a ra' e hle hcase
     subst e
     simp only [List.length_cons] at hk h1
     obtain ⟨a1, a2⟩ := List.pairwise_cons.1 ha
     obtain ⟨r', p1, p2, p3, p4⟩ := put_last r a hs (fun x hx => (hr x hx).1 a (by simp)) (by omega)
     obtain ⟨s, s1, s2, s3⟩ := ih ra' rb (pa ++ [a]) pb r' n (by omega) a2 hb (fun x hx => by
      rcases (p2 x).1 hx with hx | rfl
      ·exact ⟨fun y hy => (hr x hx).1 y (by simp [hy]), (hr x hx).2⟩
      ·exact ⟨fun y hy => by have := a1 y hy; omega, hle⟩) p1 (by simp; omega) h2 (by omega) (by omega)
     refine ⟨s, ?_, s2, fun x => ?_⟩
     ·rw [← s1]
      refine iterN_inl ?_
      have c1 : ((pa.length : Nat) : Int) < ((pa ++ a :: ra').length : Int) := lt_mid
      have hlk : lk (pa ++ a :: ra') ((pa.length : Nat) : Int) = some a := lk_mid
      have hw : IntKind.i64.wrap (((pa.length : Nat) : Int) + 1) = (((pa ++ [a]).length : Nat) : Int) := w_mid (by omega)
      have q := p4 (pa ++ a :: ra') (pb ++ rb) (((pa ++ [a]).length : Nat) : Int) ((pb.length : Nat) : Int)
      rcases hcase with rfl | ⟨b, rb', rfl⟩
      ·have c2 : (((pb.length : Nat) : Int) == ((pb ++ []).length : Int)) = true := by simp
       simp only [fM, refSorted0_s8, c1, decide_true, cond_true, Option.bind_some, c2, hlk, hw]
       rw [q]; simp
      ·have c2 : (((pb.length : Nat) : Int) == ((pb ++ b :: rb').length : Int)) = false := by
        rw [beq_eq_false_iff_ne]; simp; omega
       have hlk2 : lk (pb ++ b :: rb') ((pb.length : Nat) : Int) = some b := lk_mid
       have hab : a ≤ b := hle b (by simp)
       simp only [fM, refSorted0_s8, c1, decide_true, cond_true, cond_false, Option.bind_some, c2, hlk, hlk2, hab, hw]
       rw [q]; simp
     ·rw [s3, p2]; simp only [List.mem_cons]; constructor
      ·rintro ((h | h) | h | h)
       ·exact .inl h
       ·exact .inr (.inl (.inl h))
       ·exact .inr (.inl (.inr h))
       ·exact .inr (.inr h)
      ·rintro (h | (h | h) | h)
       ·exact .inl (.inl h)
       ·exact .inl (.inr h)
       ·exact .inr (.inl h)
       ·exact .inr (.inr h)
    have takeB : ∀ b rb', rb = b :: rb' → (∀ y ∈ ra, b ≤ y) → (ra = [] ∨ ∃ a ra', ra = a :: ra' ∧ b < a) → ∃ s, iterN fM (n + 1) (pa ++ ra, (pb ++ rb, (r, (((pa.length : Nat) : Int), (((pb.length : Nat) : Int), ()))))) = some (s, ()) ∧ s.Pairwise (· < ·) ∧ ∀ x, x ∈ s ↔ x ∈ r ∨ x ∈ ra ∨ x ∈ rb := by
     intro b rb' e hle hcase
     subst e
     simp only [List.length_cons] at hk h2
     obtain ⟨a1, a2⟩ := List.pairwise_cons.1 hb
     obtain ⟨r', p1, p2, p3, p4⟩ := put_last r b hs (fun x hx => (hr x hx).2 b (by simp)) (by omega)
     obtain ⟨s, s1, s2, s3⟩ := ih ra rb' pa (pb ++ [b]) r' n (by omega) ha a2 (fun x hx => by
      rcases (p2 x).1 hx with hx | rfl
      ·exact ⟨(hr x hx).1, fun y hy => (hr x hx).2 y (by simp [hy])⟩
      ·exact ⟨hle, fun y hy => by have := a1 y hy; omega⟩) p1 h1 (by simp; omega) (by omega) (by omega)
     refine ⟨s, ?_, s2, fun x => ?_⟩
     ·rw [← s1]
      refine iterN_inl ?_
      have c1 : ((pb.length : Nat) : Int) < ((pb ++ b :: rb').length : Int) := lt_mid
      have hlk : lk (pb ++ b :: rb') ((pb.length : Nat) : Int) = some b := lk_mid
      have hw : IntKind.i64.wrap (((pb.length : Nat) : Int) + 1) = (((pb ++ [b]).length : Nat) : Int) := w_mid (by omega)
      have q := p4 (pa ++ ra) (pb ++ b :: rb') ((pa.length : Nat) : Int) (((pb ++ [b]).length : Nat) : Int)
      have c2 : (((pb.length : Nat) : Int) == ((pb ++ b :: rb').length : Int)) = false := by
       rw [beq_eq_false_iff_ne]; simp; omega
      rcases hcase with rfl | ⟨a, ra', rfl, hab⟩
      ·have c3 : ¬ ((pa.length : Nat) : Int) < ((pa ++ []).length : Int) := by simp
       simp only [fM, refSorted0_s8, c1, c3, decide_true, decide_false, cond_true, cond_false, Option.bind_some, c2, hlk, hw]
       rw [q]; simp
      ·have c3 : ((pa.length : Nat) : Int) < ((pa ++ a :: ra').length : Int) := lt_mid
       have hlk2 : lk (pa ++ a :: ra') ((pa.length : Nat) : Int) = some a := lk_mid
       have hab' : ¬ a ≤ b := by omega
       simp only [fM, refSorted0_s8, c3, decide_true, decide_false, cond_true, cond_false, Option.bind_some, c2, hlk, hlk2, hab', hw]
       rw [q]; simp
     ·rw [s3, p2]; simp only [List.mem_cons]; constructor
      ·rintro ((h | h) | h | h)
       ·exact .inl h
       ·exact .inr (.inr (.inl h))
       ·exact .inr (.inl h)
       ·exact .inr (.inr (.inr h))
      ·rintro (h | h | h | h)
       ·exact .inl (.inl h)
       ·exact .inr (.inl h)
       ·exact .inl (.inr h)
       ·exact .inr (.inr h)
    cases ra with
    | nil =>
     cases rb with
     | nil => simp at hk
     | cons b rb' => exact takeB b rb' rfl (fun y hy => by cases hy) (.inl rfl)
    | cons a ra' =>
     cases rb with
     | nil => exact takeA a ra' rfl (fun y hy => by cases hy) (.inl rfl)
     | cons b rb' =>
      by_cases hab : a ≤ b
      ·exact takeA a ra' rfl (fun y hy => by
        rcases List.mem_cons.1 hy with rfl | hy
        ·exact hab
        ·have := (List.pairwise_cons.1 hb).1 y hy; omega) (.inr ⟨b, rb', rfl⟩)
      ·exact takeB b rb' rfl (fun y hy => by
        rcases List.mem_cons.1 hy with rfl | hy
        ·omega
        ·have := (List.pairwise_cons.1 ha).1 y hy; omega) (.inr ⟨a, ra', rfl, by omega⟩)
theorem sorted_len {s l : List Int} (hs : s.Pairwise (· < ·)) (hm : ∀ x, x ∈ s ↔ x ∈ l) : s.length ≤ l.length :=
  nodup_le (hs.imp fun h => by omega) fun x hx => (hm x).1 hx
theorem refSortedN_is : ∀ (k : Nat) (l : List Int), l.length < k → l.length ≤ 40000000 → ∃ s, refSortedN k l = some ((), (s, ())) ∧ s.Pairwise (· < ·) ∧ ∀ x, x ∈ s ↔ x ∈ l
  | 0, l, h, _ => by omega
  | k + 1, l, h, hb => by
   by_cases h2 : (l.length : Int) < 2
   ·refine ⟨l, by simp only [refSortedN, refSorted0, h2, decide_true, cond_true, Option.bind_some], ?_, fun _ => Iff.rfl⟩
    match l, h2 with
    | [], _ => exact List.Pairwise.nil
    | [x], _ => exact List.pairwise_singleton _ _
    | x :: y :: l, h2 => simp only [List.length_cons] at h2; omega
   ·have hd : IntKind.i64.wrap (Int.tdiv (l.length : Int) (2 : Int)) = ((l.length / 2 : Nat) : Int) := by
     rw [show Int.tdiv (l.length : Int) (2 : Int) = ((l.length / 2 : Nat) : Int) from rfl, wrap64] <;> omega
    have i1 : inB (0 : Int) ((l.length / 2 : Nat) : Int) l.length = true := by simp only [inB, Bool.and_eq_true, decide_eq_true_eq]; omega
    have i2 : inB ((l.length / 2 : Nat) : Int) (l.length : Int) l.length = true := by simp only [inB, Bool.and_eq_true, decide_eq_true_eq]; omega
    have u1 : cut l (0 : Int) ((l.length / 2 : Nat) : Int) = l.take (l.length / 2) := by
     have e1 : (((l.length / 2 : Nat) : Int) - 0).toNat = l.length / 2 := by omega
     unfold cut
     rw [e1]; rfl
    have u2 : cut l ((l.length / 2 : Nat) : Int) (l.length : Int) = l.drop (l.length / 2) := by
     have e1 : ((l.length : Int) - ((l.length / 2 : Nat) : Int)).toNat = l.length - l.length / 2 := by omega
     unfold cut
     rw [e1, Int.toNat_natCast, ← List.length_drop, List.take_length]
    obtain ⟨s1, a1, a2, a3⟩ := refSortedN_is k (l.take (l.length / 2)) (by simp; omega) (by simp; omega)
    obtain ⟨s2, b1, b2, b3⟩ := refSortedN_is k (l.drop (l.length / 2)) (by simp; omega) (by simp; omega)
    have l1 := sorted_len a2 a3
    have l2 := sorted_len b2 b3
    simp only [List.length_take, List.length_drop] at l1 l2
    obtain ⟨s, m1, m2, m3⟩ := merge_loop (s1.length + s2.length) s1 s2 [] [] [] fuN rfl a2 b2 (fun x hx => by cases hx) List.Pairwise.nil (by simp; omega) (by simp; omega) (by simp; omega) (by have := fuN_le; omega)
    refine ⟨s, ?_, m2, fun x => ?_⟩
    ·have m1' : iterN (fun x : List Int × (List Int × (List Int × (Int × (Int × Unit)))) => refSorted0_s8 x.1 x.2.1 x.2.2.1 x.2.2.2.1 x.2.2.2.2.1) fuN (s1, (s2, ([], ((0 : Int), ((0 : Int), ()))))) = some (s, ()) := m1
     simp only [refSortedN, refSorted0, h2, decide_false, cond_false, Option.bind_some, show ((2 : Int) != 0) = true from rfl, cond_true, hd, i1, i2, u1, u2, a1, b1, m1']
    ·rw [m3, a3, b3]
     rw [show (x ∈ l ↔ x ∈ l.take (l.length / 2) ++ l.drop (l.length / 2)) from by rw [List.take_append_drop], List.mem_append]
     simp
theorem refSorted_is (l : List Int) (hb : l.length ≤ 40000000) : ∃ s, refSorted l = some ((), (s, ())) ∧ s.Pairwise (· < ·) ∧ ∀ x, x ∈ s ↔ x ∈ l := refSortedN_is _ l (by omega) hb
end Go.Vu.Mg
namespace Go.Vu.Mg
open Go Go.Vu Go.Sort Go.Vu.Srt
def SpecV (P : Int → Int → Prop) (o : Option (Unit × (List Pst × Unit))) (R : List Pst) : Prop := o = some ((), (R, ())) ∧ Nm R ∧ ∀ d n, M0 R d n ↔ P d n
theorem spec_eq {P Q : Int → Int → Prop} {o : Option (Unit × (((Pl × Unit) × List Rw) × Unit))} {o' : Option (Unit × (List Pst × Unit))} {R R' : List Pst} (h : Spec P o R) (h' : SpecV Q o' R') (hpq : ∀ d n, P d n ↔ Q d n) : R' = R :=
  nm_ext h'.2.1 h.2.1 fun d n => by rw [h'.2.2, h.2.2, hpq]
theorem lk_m {α : Type} {l pre rest : List α} {a : α} (h : l = pre ++ a :: rest) : lk l ((pre.length : Nat) : Int) = some a := by rw [h]; exact lk_mid
theorem lt_m {α : Type} {l pre rest : List α} {a : α} (h : l = pre ++ a :: rest) : ((pre.length : Nat) : Int) < (l.length : Int) := by rw [h]; exact lt_mid
theorem w_m {α : Type} {l pre rest : List α} {a : α} (h : l = pre ++ a :: rest) (hb : l.length ≤ 100000000) : IntKind.i64.wrap (((pre.length : Nat) : Int) + 1) = (((pre ++ [a]).length : Nat) : Int) := w_mid (by have := pre_le h; omega)
def nums (l : List Pst) (d : Int) : List Int := l.flatMap fun p => if p.1 = d then p.2.filter (fun n => decide (0 ≤ n)) else []
theorem nums_app (a b : List Pst) (d : Int) : nums (a ++ b) d = nums a d ++ nums b d := by simp [nums]
theorem nums_one (p : Pst) (d : Int) : nums [p] d = if p.1 = d then p.2.filter (fun n => decide (0 ≤ n)) else [] := by simp [nums]
theorem nums_len : ∀ (l : List Pst) (d : Int), (nums l d).length ≤ cnL l
  | [], _ => Nat.le_refl _
  | p :: l, d => by
   have ih := nums_len l d
   rw [show p :: l = [p] ++ l from rfl, nums_app, cnL_app, List.length_append, nums_one]
   have : (if p.1 = d then p.2.filter (fun n => decide (0 ≤ n)) else []).length ≤ cnL [p] := by
    split
    ·have := List.length_filter_le (fun n => decide (0 ≤ n)) p.2
     simp only [cnL, List.map_cons, List.map_nil, List.sum_cons, List.sum_nil]; omega
    ·simp
   omega
theorem mem_nums {l : List Pst} {d k : Int} : k ∈ nums l d ↔ 0 ≤ k ∧ M0 l d k := by
  unfold nums M0
  rw [List.mem_flatMap]
  constructor
  ·rintro ⟨p, h1, h2⟩
   split at h2
   ·rename_i e
    obtain ⟨h3, h4⟩ := List.mem_filter.1 h2
    exact ⟨by simpa using h4, p, h1, e, h3⟩
   ·cases h2
  ·rintro ⟨h1, p, h2, h3, h4⟩
   refine ⟨p, h2, ?_⟩
   rw [if_pos h3]
   exact List.mem_filter.2 ⟨h4, by simpa using h1⟩
theorem numbers_in (l : List Pst) (hl : Small l) (d : Int) (pre rest : List Pst) (p : Pst) (he : l = pre ++ p :: rest) :
   iterN (fun x : List Pst × (Int × (List Int × (Int × (Int × Unit)))) => refNumbers_s8 x.1 x.2.1 x.2.2.1 x.2.2.2.1 x.2.2.2.2.1) fuN (l, (d, (nums pre d, (((pre.length : Nat) : Int), ((0 : Int), ()))))) = some (l, (d, (nums (pre ++ [p]) d, (((pre.length : Nat) : Int), ())))) := by
  have hlk := lk_m he
  have hcn : cnL pre + p.2.length ≤ 10000000 := by
   have := hl.2; rw [he, cnL_app] at this; simp only [cnL, List.map_cons, List.sum_cons] at this ⊢; omega
  have hnl := nums_len pre d
  rw [nums_app, nums_one]
  by_cases hd : p.1 = d
  ·have hd' : (p.1 == d) = true := by simp [hd]
   rw [if_pos hd]
   refine it_for' (fun q => (l, (d, (nums pre d ++ q.filter (fun n => decide (0 ≤ n)), (((pre.length : Nat) : Int), (((q.length : Nat) : Int), ())))))) p.2 _ (by omega) (fun q a r hq => ?_) ?_ (by simp)
   ·have c1 := lt_m hq
    have c2 := lk_m hq
    have c3 := w_m hq (by omega)
    have hqf := List.length_filter_le (fun n => decide (0 ≤ n)) q
    have := pre_le hq
    have hr : roomOk ((nums pre d ++ q.filter (fun n => decide (0 ≤ n))).length + [a].length) 8 = true := room8 (by simp only [List.length_append, List.length_singleton]; omega)
    by_cases ha : a ≥ 0
    ·have ha' : decide (0 ≤ a) = true := decide_eq_true ha
     rw [List.filter_append, List.filter_cons_of_pos (p := fun n => decide (0 ≤ n)) ha', List.filter_nil]
     simp only [refNumbers_s8, hlk, Option.bind_some, c1, decide_true, cond_true, hd', c2, ha, hr, c3, List.append_assoc]
    ·have ha' : ¬ decide (0 ≤ a) = true := by simpa using ha
     rw [List.filter_append, List.filter_cons_of_neg (p := fun n => decide (0 ≤ n)) ha', List.filter_nil, List.append_nil]
     simp only [refNumbers_s8, hlk, Option.bind_some, c1, decide_true, decide_false, cond_true, cond_false, hd', c2, ha, c3]
   ·have c1 : ¬ ((p.2.length : Nat) : Int) < (p.2.length : Int) := by omega
    simp only [refNumbers_s8, hlk, Option.bind_some, c1, decide_false, cond_false]
  ·have hd' : (p.1 == d) = false := by simp [hd]
   rw [if_neg hd, List.append_nil]
   obtain ⟨n, e⟩ : ∃ n, fuN = n + 1 := ⟨fuN - 1, by have := fuN_le; omega⟩
   rw [e]
   refine iterN_inr ?_
   by_cases c1 : (0 : Int) < (p.2.length : Int)
   ·simp only [refNumbers_s8, hlk, Option.bind_some, c1, decide_true, cond_true, hd', cond_false]
   ·simp only [refNumbers_s8, hlk, Option.bind_some, c1, decide_false, cond_false]
theorem refNumbers_is (l : List Pst) (hl : Small l) (d : Int) : ∃ s, refNumbers l d = some ((), (s, ())) ∧ s.Pairwise (· < ·) ∧ (∀ k, k ∈ s ↔ 0 ≤ k ∧ M0 l d k) ∧ s.length ≤ cnL l := by
  have hll := hl.1
  have hlc := hl.2
  have h1 : iterN (fun x : List Pst × (Int × (List Int × (Int × Unit))) => refNumbers_s3 x.1 x.2.1 x.2.2.1 x.2.2.2.1) fuN (l, (d, ([], ((0 : Int), ())))) = some (nums l d, ()) := by
   refine it_for' (fun pre => (l, (d, (nums pre d, (((pre.length : Nat) : Int), ()))))) l _ (by omega) (fun pre p rest he => ?_) ?_ rfl
   ·have c1 := lt_m he
    have c3 := w_m he (by omega)
    have h2 := numbers_in l hl d pre rest p he
    simp only [refNumbers_s3, c1, decide_true, cond_true, Option.bind_some, h2, c3]
   ·have c1 : ¬ ((l.length : Nat) : Int) < (l.length : Int) := by omega
    simp only [refNumbers_s3, c1, decide_false, cond_false, Option.bind_some]
  have hn := nums_len l d
  obtain ⟨s, s1, s2, s3⟩ := refSorted_is (nums l d) (by omega)
  refine ⟨s, by simp only [refNumbers, h1, Option.bind_some, s1], s2, fun k => (s3 k).trans mem_nums, Nat.le_trans (sorted_len s2 s3) hn⟩
def rowsN (N : Int → List Int) (ds : List Int) : List Pst := (ds.map fun d => ((d, N d) : Pst)).filter fun p => !p.2.isEmpty
theorem rowsN_len (N : Int → List Int) (ds : List Int) : (rowsN N ds).length ≤ ds.length := by
  have := List.length_filter_le (fun p : Pst => !p.2.isEmpty) (ds.map fun d => ((d, N d) : Pst))
  rw [List.length_map] at this
  exact this
theorem rowsN_app (N : Int → List Int) (ds : List Int) (d : Int) : rowsN N (ds ++ [d]) = rowsN N ds ++ (if N d = [] then [] else [(d, N d)]) := by
  unfold rowsN
  rw [List.map_append, List.filter_append, List.map_cons, List.map_nil]
  by_cases hz : N d = []
  ·rw [if_pos hz, List.filter_cons_of_neg (by simp [hz]), List.filter_nil]
  ·rw [if_neg hz, List.filter_cons_of_pos (by simp [hz]), List.filter_nil]
theorem refNorm_spec (l : List Pst) (hl : Small l) : ∃ R, SpecV (M l) (refNorm l) R := by
  have hll := hl.1
  have h1 : iterN (fun x : List Pst × (List Int × (Int × Unit)) => refNorm_s3 x.1 x.2.1 x.2.2.1) fuN (l, ([], ((0 : Int), ()))) = some (l, ((l.filter fun p => decide (p.1 ≥ 0)).map (·.1), ())) := by
   refine it_for' (fun pre => (l, ((pre.filter fun p => decide (p.1 ≥ 0)).map (·.1), (((pre.length : Nat) : Int), ())))) l _ (by omega) (fun pre p rest he => ?_) ?_ rfl
   ·have c1 := lt_m he
    have c2 := lk_m he
    have c3 := w_m he (by omega)
    have := pre_le he
    have hf := List.length_filter_le (fun p : Pst => decide (p.1 ≥ 0)) pre
    have hr : roomOk (((pre.filter fun p => decide (p.1 ≥ 0)).map (·.1)).length + [p.1].length) 8 = true := room8 (by simp only [List.length_map, List.length_singleton]; omega)
    by_cases hp : p.1 ≥ 0
    ·rw [List.filter_append, List.filter_cons_of_pos (by simpa using hp), List.filter_nil, List.map_append]
     simp only [refNorm_s3, c1, decide_true, cond_true, Option.bind_some, c2, hp, hr, c3, List.map_cons, List.map_nil]
    ·rw [List.filter_append, List.filter_cons_of_neg (by simpa using hp), List.filter_nil, List.append_nil]
     simp only [refNorm_s3, c1, decide_true, decide_false, cond_true, cond_false, Option.bind_some, c2, hp, c3]
   ·have c1 : ¬ ((l.length : Nat) : Int) < (l.length : Int) := by omega
    simp only [refNorm_s3, c1, decide_false, cond_false, Option.bind_some]
  have hfl : ((l.filter fun p => decide (p.1 ≥ 0)).map (·.1)).length ≤ 10000000 := by
   have := List.length_filter_le (fun p : Pst => decide (p.1 ≥ 0)) l
   simp only [List.length_map]; omega
  obtain ⟨ds, s1, s2, s3⟩ := refSorted_is _ (Nat.le_trans hfl (by omega))
  have hdl := Nat.le_trans (sorted_len s2 s3) hfl
  obtain ⟨N, hN⟩ : ∃ N : Int → List Int, ∀ d, refNumbers l d = some ((), (N d, ())) ∧ (N d).Pairwise (· < ·) ∧ (∀ k, k ∈ N d ↔ 0 ≤ k ∧ M0 l d k) ∧ (N d).length ≤ cnL l :=
   ⟨fun d => Classical.choose (refNumbers_is l hl d), fun d => Classical.choose_spec (refNumbers_is l hl d)⟩
  have h2 : iterN (fun x : List Pst × (List Int × (List Pst × (Int × Unit))) => refNorm_s14 x.1 x.2.1 x.2.2.1 x.2.2.2.1) fuN (l, (ds, ([], ((0 : Int), ())))) = some (rowsN N ds, ()) := by
   refine it_for' (fun pre => (l, (ds, (rowsN N pre, (((pre.length : Nat) : Int), ()))))) ds _ (by omega) (fun pre d rest he => ?_) ?_ rfl
   ·have c1 := lt_m he
    have c2 := lk_m he
    have c3 := w_m he (by omega)
    have := pre_le he
    have hf := rowsN_len N pre
    have hr : roomOk ((rowsN N pre).length + [(d, N d)].length) 32 = true := room32 (by simp only [List.length_singleton]; omega)
    rw [rowsN_app]
    by_cases hz : N d = []
    ·have hz' : ¬ (((N d).length : Nat) : Int) > 0 := by rw [hz]; simp
     rw [if_pos hz, List.append_nil]
     simp only [refNorm_s14, c1, decide_true, decide_false, cond_true, cond_false, Option.bind_some, c2, (hN d).1, hz', c3]
    ·have hz' : (((N d).length : Nat) : Int) > 0 := by have := List.length_pos_iff.2 hz; omega
     rw [if_neg hz]
     simp only [refNorm_s14, c1, decide_true, cond_true, Option.bind_some, c2, (hN d).1, hz', hr, c3]
   ·have c1 : ¬ ((ds.length : Nat) : Int) < (ds.length : Int) := by omega
    simp only [refNorm_s14, c1, decide_false, cond_false, Option.bind_some]
  refine ⟨rowsN N ds, by simp only [refNorm, h1, Option.bind_some, s1, h2], ⟨?_, ?_⟩, ?_⟩
  ·have : (ds.map fun d => ((d, N d) : Pst)).Pairwise fun p q => p.1 < q.1 := List.pairwise_map.2 s2
   exact this.sublist List.filter_sublist
  ·intro p hp
   obtain ⟨g1, g2⟩ := List.mem_filter.1 hp
   obtain ⟨d, hd, rfl⟩ := List.mem_map.1 g1
   obtain ⟨x, hx, hxd⟩ := List.mem_map.1 ((s3 d).1 hd)
   have := (List.mem_filter.1 hx).2
   refine ⟨by rw [← hxd]; simpa using this, fun e => ?_, (hN d).2.1, fun n hn => (((hN d).2.2.1 n).1 hn).1⟩
   simp only at e
   rw [e] at g2; cases g2
  ·intro d n
   constructor
   ·rintro ⟨p, hp, rfl, hn⟩
    obtain ⟨g1, g2⟩ := List.mem_filter.1 hp
    obtain ⟨d, hd, rfl⟩ := List.mem_map.1 g1
    obtain ⟨x, hx, hxd⟩ := List.mem_map.1 ((s3 d).1 hd)
    have h0 := (List.mem_filter.1 hx).2
    have hk := ((hN d).2.2.1 n).1 hn
    exact ⟨by show 0 ≤ d; rw [← hxd]; simpa using h0, hk.1, hk.2⟩
   ·rintro ⟨h0, hn, hm⟩
    have hk := ((hN d).2.2.1 n).2 ⟨hn, hm⟩
    obtain ⟨p, hp, rfl, _⟩ := hm
    refine ⟨(p.1, N p.1), List.mem_filter.2 ⟨List.mem_map.2 ⟨p.1, (s3 p.1).2 (List.mem_map.2 ⟨p, List.mem_filter.2 ⟨hp, by simpa using h0⟩, rfl⟩), rfl⟩, ?_⟩, rfl, hk⟩
    have := List.ne_nil_of_mem hk
    simp [this]
theorem specV_len {P : Int → Int → Prop} {o : Option (Unit × (List Pst × Unit))} {R l : List Pst} (h : SpecV P o R) (hs : ∀ d n, P d n → M0 l d n) : R.length ≤ cnL l ∧ cnL R ≤ cnL l :=
  ⟨nm_len h.2.1 fun d n h1 => hs d n ((h.2.2 d n).1 h1), nm_cnL h.2.1 fun d n h1 => hs d n ((h.2.2 d n).1 h1)⟩
theorem refDocs_is (l : List Pst) (hl : Small l) : ∃ R, SpecV (M l) (refNorm l) R ∧ refDocs l = some ((), (R.map (·.1), ())) := by
  obtain ⟨R, hR⟩ := refNorm_spec l hl
  have hlen : R.length ≤ 10000000 := Nat.le_trans (specV_len hR fun d n h => h.2.2).1 hl.2
  refine ⟨R, hR, ?_⟩
  have h1 : iterN (fun x : List Pst × (List Int × (Int × Unit)) => refDocs_s3 x.1 x.2.1 x.2.2.1) fuN (R, ([], ((0 : Int), ()))) = some (R.map (·.1), ()) := by
   refine it_for' (fun pre => (R, (pre.map (·.1), (((pre.length : Nat) : Int), ())))) R _ (by omega) (fun pre p rest he => ?_) ?_ rfl
   ·have c1 := lt_m he
    have c2 := lk_m he
    have c3 := w_m he (by omega)
    have := pre_le he
    have hr : roomOk ((pre.map (·.1)).length + [p.1].length) 8 = true := room8 (by simp only [List.length_map, List.length_singleton]; omega)
    simp only [refDocs_s3, c1, decide_true, cond_true, Option.bind_some, c2, hr, c3, List.map_append, List.map_cons, List.map_nil]
   ·have c1 : ¬ ((R.length : Nat) : Int) < (R.length : Int) := by omega
    simp only [refDocs_s3, c1, decide_false, cond_false, Option.bind_some]
  simp only [refDocs, hR.1, Option.bind_some, h1]
theorem refIn_loop (R : List Pst) (hb : R.length ≤ 10000000) (d : Int) : ∀ (rest pre : List Pst) (n : Nat), R = pre ++ rest → rest.length < n →
   iterN (fun x : List Pst × (Int × (Int × Unit)) => refIn_s2 x.1 x.2.1 x.2.2.1) n (R, (d, (((pre.length : Nat) : Int), ()))) = some (if rest.any (fun p => p.1 == d) then .inl (true, ()) else .inr ())
  | [], pre, 0, _, hn => by simp at hn
  | [], pre, n + 1, he, hn => by
   have hlt : ¬ ((pre.length : Nat) : Int) < (R.length : Int) := by rw [he]; simp
   rw [List.any_nil, if_neg (by simp)]
   refine iterN_inr ?_
   simp only [refIn_s2, hlt, decide_false, cond_false, Option.bind_some]
  | p :: rest, pre, 0, _, hn => by simp at hn
  | p :: rest, pre, n + 1, he, hn => by
   have c1 := lt_m he
   have c2 := lk_m he
   have c3 := w_m he (by omega)
   simp only [List.length_cons] at hn
   cases hd : p.1 == d with
   | true =>
    rw [List.any_cons, hd, Bool.true_or, if_pos rfl]
    refine iterN_inr ?_
    simp only [refIn_s2, c1, decide_true, cond_true, Option.bind_some, c2, hd]
   | false =>
    rw [List.any_cons, hd, Bool.false_or, ← refIn_loop R hb d rest (pre ++ [p]) n (by rw [he]; exact app_mid) (by omega)]
    refine iterN_inl ?_
    simp only [refIn_s2, c1, decide_true, cond_true, Option.bind_some, c2, hd, cond_false, c3]
theorem refIn_is (R : List Pst) (hb : R.length ≤ 10000000) (d : Int) : refIn R d = some ((), (R.any (fun p => p.1 == d), ())) := by
  have h1 : iterN (fun x : List Pst × (Int × (Int × Unit)) => refIn_s2 x.1 x.2.1 x.2.2.1) fuN (R, (d, ((0 : Int), ()))) = _ := refIn_loop R hb d R [] fuN rfl (by have := fuN_le; omega)
  simp only [refIn, h1, Option.bind_some]
  cases R.any (fun p => p.1 == d) <;> rfl
theorem any_dn {R l : List Pst} (hn : Nm R) (hm : ∀ d n, M0 R d n ↔ M l d n) (d : Int) : R.any (fun p => p.1 == d) = true ↔ Dn l d := by
  rw [List.any_eq_true]
  unfold Dn
  constructor
  ·rintro ⟨p, hp, e⟩
   have e : p.1 = d := by simpa using e
   obtain ⟨k, hk⟩ := List.exists_mem_of_ne_nil _ (hn.row p hp).2.1
   exact ⟨k, (hm d k).1 ⟨p, hp, e, hk⟩⟩
  ·rintro ⟨k, hk⟩
   obtain ⟨p, hp, e, _⟩ := (hm d k).2 hk
   exact ⟨p, hp, by simp [e]⟩
theorem refBoth_is (a b : List Pst) (h : a.length + b.length ≤ 10000000) : refBoth a b = some ((), (a ++ b, ())) := by
  have h1 : iterN (fun x : List Pst × (List Pst × (List Pst × (Int × Unit))) => refBoth_s3 x.1 x.2.1 x.2.2.1 x.2.2.2.1) fuN (a, (b, ([], ((0 : Int), ())))) = some (b, (a, ())) := by
   refine it_for' (fun pre => (a, (b, (pre, (((pre.length : Nat) : Int), ()))))) a _ (by omega) (fun pre p rest he => ?_) ?_ rfl
   ·have c1 := lt_m he
    have c2 := lk_m he
    have c3 := w_m he (by omega)
    have := pre_le he
    have hr : roomOk (pre.length + [p].length) 32 = true := room32 (by simp only [List.length_singleton]; omega)
    simp only [refBoth_s3, c1, decide_true, cond_true, Option.bind_some, c2, hr, c3]
   ·have c1 : ¬ ((a.length : Nat) : Int) < (a.length : Int) := by omega
    simp only [refBoth_s3, c1, decide_false, cond_false, Option.bind_some]
  have h2 : iterN (fun x : List Pst × (List Pst × (Int × Unit)) => refBoth_s12 x.1 x.2.1 x.2.2.1) fuN (b, (a, ((0 : Int), ()))) = some (a ++ b, ()) := by
   refine it_for' (fun pre => (b, (a ++ pre, (((pre.length : Nat) : Int), ())))) b _ (by omega) (fun pre p rest he => ?_) ?_ (by simp)
   ·have c1 := lt_m he
    have c2 := lk_m he
    have c3 := w_m he (by omega)
    have := pre_le he
    have hr : roomOk ((a ++ pre).length + [p].length) 32 = true := room32 (by simp only [List.length_append, List.length_singleton]; omega)
    simp only [refBoth_s12, c1, decide_true, cond_true, Option.bind_some, c2, hr, c3, List.append_assoc]
   ·have c1 : ¬ ((b.length : Nat) : Int) < (b.length : Int) := by omega
    simp only [refBoth_s12, c1, decide_false, cond_false, Option.bind_some]
  simp only [refBoth, h1, Option.bind_some, h2]
theorem refOr_spec (a b : List Pst) (ha : a.length + b.length ≤ 10000000) (hb : cnL a + cnL b ≤ 10000000) : ∃ R, SpecV (fun d n => M a d n ∨ M b d n) (refOr a b) R := by
  obtain ⟨R, h1, h2, h3⟩ := refNorm_spec (a ++ b) (small_app ha hb)
  exact ⟨R, by simp only [refOr, refBoth_is a b ha, Option.bind_some, h1], h2, fun d n => (h3 d n).trans (M_app a b d n)⟩
theorem refAnd_spec (a b : List Pst) (ha : a.length + b.length ≤ 10000000) (hb : cnL a + cnL b ≤ 10000000) : ∃ R, SpecV (fun d n => (M a d n ∨ M b d n) ∧ Dn a d ∧ Dn b d) (refAnd a b) R := by
  obtain ⟨A, hA⟩ := refNorm_spec a ⟨by omega, by omega⟩
  obtain ⟨B, hB⟩ := refNorm_spec b ⟨by omega, by omega⟩
  obtain ⟨C, hC⟩ := refOr_spec a b ha hb
  have lA := (specV_len hA fun d n h => h.2.2).1
  have lB := (specV_len hB fun d n h => h.2.2).1
  have lC := (specV_len (l := a ++ b) hC fun d n h => by rw [← M_app] at h; exact h.2.2).1
  rw [cnL_app] at lC
  have h1 : iterN (fun x : List Pst × (List Pst × (List Pst × (List Pst × (Int × Unit)))) => refAnd_s5 x.1 x.2.1 x.2.2.1 x.2.2.2.1 x.2.2.2.2.1) fuN (A, (B, (C, ([], ((0 : Int), ()))))) = some (C.filter (fun p => A.any (fun q => q.1 == p.1) && B.any (fun q => q.1 == p.1)), ()) := by
   refine it_for' (fun pre => (A, (B, (C, (pre.filter (fun p => A.any (fun q => q.1 == p.1) && B.any (fun q => q.1 == p.1)), (((pre.length : Nat) : Int), ())))))) C _ (by omega) (fun pre p rest he => ?_) ?_ rfl
   ·have c1 := lt_m he
    have c2 := lk_m he
    have c3 := w_m he (by omega)
    have := pre_le he
    have hf := List.length_filter_le (fun p : Pst => A.any (fun q => q.1 == p.1) && B.any (fun q => q.1 == p.1)) pre
    have hr : roomOk ((pre.filter (fun p => A.any (fun q => q.1 == p.1) && B.any (fun q => q.1 == p.1))).length + [p].length) 32 = true := room32 (by simp only [List.length_singleton]; omega)
    have i1 := refIn_is A (by omega) p.1
    have i2 := refIn_is B (by omega) p.1
    rw [List.filter_append]
    cases hx : A.any (fun q => q.1 == p.1) with
    | false =>
     rw [List.filter_cons_of_neg (by simp [hx]), List.filter_nil, List.append_nil]
     rw [hx] at i1
     simp only [refAnd_s5, c1, decide_true, cond_true, cond_false, Option.bind_some, c2, i1, c3]
    | true =>
     rw [hx] at i1
     cases hy : B.any (fun q => q.1 == p.1) with
     | false =>
      rw [List.filter_cons_of_neg (by simp [hy]), List.filter_nil, List.append_nil]
      rw [hy] at i2
      simp only [refAnd_s5, c1, decide_true, cond_true, cond_false, Option.bind_some, c2, i1, i2, c3]
     | true =>
      rw [List.filter_cons_of_pos (by simp [hx, hy]), List.filter_nil]
      rw [hy] at i2
      simp only [refAnd_s5, c1, decide_true, cond_true, Option.bind_some, c2, i1, i2, hr, c3]
   ·have c1 : ¬ ((C.length : Nat) : Int) < (C.length : Int) := by omega
    simp only [refAnd_s5, c1, decide_false, cond_false, Option.bind_some]
  refine ⟨C.filter (fun p => A.any (fun q => q.1 == p.1) && B.any (fun q => q.1 == p.1)), by simp only [refAnd, hA.1, hB.1, hC.1, Option.bind_some, h1], nm_filter hC.2.1 _, fun d n => ?_⟩
  rw [m0_filter (c := fun d => A.any (fun q => q.1 == d) && B.any (fun q => q.1 == d)), hC.2.2, Bool.and_eq_true, any_dn hA.2.1 hA.2.2, any_dn hB.2.1 hB.2.2]
theorem refMinus_spec (a b : List Pst) (ha : Small a) (hb : Small b) : ∃ R, SpecV (fun d n => M a d n ∧ ¬ Dn b d) (refMinus a b) R := by
  obtain ⟨A, hA⟩ := refNorm_spec a ha
  obtain ⟨B, hB⟩ := refNorm_spec b hb
  have lA := (specV_len hA fun d n h => h.2.2).1
  have lB := (specV_len hB fun d n h => h.2.2).1
  have := ha.2
  have := hb.2
  have h1 : iterN (fun x : List Pst × (List Pst × (List Pst × (Int × Unit))) => refMinus_s4 x.1 x.2.1 x.2.2.1 x.2.2.2.1) fuN (A, (B, ([], ((0 : Int), ())))) = some (A.filter (fun p => !B.any (fun q => q.1 == p.1)), ()) := by
   refine it_for' (fun pre => (A, (B, (pre.filter (fun p => !B.any (fun q => q.1 == p.1)), (((pre.length : Nat) : Int), ()))))) A _ (by omega) (fun pre p rest he => ?_) ?_ rfl
   ·have c1 := lt_m he
    have c2 := lk_m he
    have c3 := w_m he (by omega)
    have := pre_le he
    have hf := List.length_filter_le (fun p : Pst => !B.any (fun q => q.1 == p.1)) pre
    have hr : roomOk ((pre.filter (fun p => !B.any (fun q => q.1 == p.1))).length + [p].length) 32 = true := room32 (by simp only [List.length_singleton]; omega)
    have i2 := refIn_is B (by omega) p.1
    rw [List.filter_append]
    cases hy : B.any (fun q => q.1 == p.1) with
    | true =>
     rw [List.filter_cons_of_neg (by simp [hy]), List.filter_nil, List.append_nil]
     rw [hy] at i2
     simp only [refMinus_s4, c1, decide_true, cond_true, Bool.not_true, cond_false, Option.bind_some, c2, i2, c3]
    | false =>
     rw [List.filter_cons_of_pos (by simp [hy]), List.filter_nil]
     rw [hy] at i2
     simp only [refMinus_s4, c1, decide_true, cond_true, Bool.not_false, Option.bind_some, c2, i2, hr, c3]
   ·have c1 : ¬ ((A.length : Nat) : Int) < (A.length : Int) := by omega
    simp only [refMinus_s4, c1, decide_false, cond_false, Option.bind_some]
  refine ⟨A.filter (fun p => !B.any (fun q => q.1 == p.1)), by simp only [refMinus, hA.1, hB.1, Option.bind_some, h1], nm_filter hA.2.1 _, fun d n => ?_⟩
  rw [m0_filter (c := fun d => !B.any (fun q => q.1 == d)), hA.2.2, Bool.not_eq_true', ← Bool.not_eq_true, any_dn hB.2.1 hB.2.2]
theorem same_in (R : List Pst) (pre rest : List Pst) (p : Pst) (he : R = pre ++ p :: rest) (hb : p.2.length ≤ 100000000) :
   iterN (fun x : List Pst × (List Pst × (Int × (Int × Unit))) => same_s15 x.1 x.2.1 x.2.2.1 x.2.2.2.1) fuN (R, (R, (((pre.length : Nat) : Int), ((0 : Int), ())))) = some (.inr (R, (R, (((pre.length : Nat) : Int), ())))) := by
  have hlk := lk_m he
  refine it_for' (fun q => (R, (R, (((pre.length : Nat) : Int), (((q.length : Nat) : Int), ()))))) p.2 _ (by omega) (fun q a r hq => ?_) ?_ rfl
  ·have c1 := lt_m hq
   have c2 := lk_m hq
   have c3 := w_m hq hb
   simp only [same_s15, hlk, Option.bind_some, c1, decide_true, cond_true, c2, bne_self_eq_false, cond_false, c3]
  ·have c1 : ¬ ((p.2.length : Nat) : Int) < (p.2.length : Int) := by omega
   simp only [same_s15, hlk, Option.bind_some, c1, decide_false, cond_false]
theorem same_refl (R : List Pst) (hb : Small R) : same R R = some ((), (true, ())) := by
  have hb1 := hb.1
  have hb2 := hb.2
  have h1 : iterN (fun x : List Pst × (List Pst × (Int × Unit)) => same_s4 x.1 x.2.1 x.2.2.1) fuN (R, (R, ((0 : Int), ()))) = some (.inr ()) := by
   refine it_for' (fun pre => (R, (R, (((pre.length : Nat) : Int), ())))) R _ (by omega) (fun pre p rest he => ?_) ?_ rfl
   ·have c1 := lt_m he
    have c2 := lk_m he
    have c3 := w_m he (by omega)
    have hp : p.2.length ≤ cnL R := mem_cnL (by rw [he]; simp)
    have h2 := same_in R pre rest p he (by omega)
    simp only [same_s4, c1, decide_true, cond_true, Option.bind_some, c2, bne_self_eq_false, cond_false, h2, c3]
   ·have c1 : ¬ ((R.length : Nat) : Int) < (R.length : Int) := by omega
    simp only [same_s4, c1, decide_false, cond_false, Option.bind_some]
  simp only [same, bne_self_eq_false, cond_false, Option.bind_some, h1]
theorem sameN_refl (l : List Int) (hb : l.length ≤ 100000000) : sameN l l = some ((), (true, ())) := by
  have h1 : iterN (fun x : List Int × (List Int × (Int × Unit)) => sameN_s4 x.1 x.2.1 x.2.2.1) fuN (l, (l, ((0 : Int), ()))) = some (.inr ()) := by
   refine it_for' (fun pre => (l, (l, (((pre.length : Nat) : Int), ())))) l _ (by omega) (fun pre p rest he => ?_) ?_ rfl
   ·have c1 := lt_m he
    have c2 := lk_m he
    have c3 := w_m he (by omega)
    simp only [sameN_s4, c1, decide_true, cond_true, Option.bind_some, c2, bne_self_eq_false, cond_false, c3]
   ·have c1 : ¬ ((l.length : Nat) : Int) < (l.length : Int) := by omega
    simp only [sameN_s4, c1, decide_false, cond_false, Option.bind_some]
  simp only [sameN, bne_self_eq_false, cond_false, Option.bind_some, h1]
end Go.Vu.Mg
namespace Go.Vu.Mg
open Go Go.Vu Go.Sort Go.Vu.Srt
theorem half2 {i j : Nat} (h : i + j < 4611686018427387904) : IntKind.i64.wrap (Int.tdiv (IntKind.i64.wrap ((i : Int) + (j : Int))) (2 : Int)) = (((i + j) / 2 : Nat) : Int) := by
  rw [w_add (by omega), show Int.tdiv ((i + j : Nat) : Int) (2 : Int) = (((i + j) / 2 : Nat) : Int) from rfl, wrap64] <;> omega
theorem has_bin (R pre rest : List Pst) (p : Pst) (he : R = pre ++ p :: rest) (v : Int) (hs : p.2.Pairwise (· ≤ ·)) (hl : p.2.length ≤ 100000000) : ∀ (k i j n : Nat), k = j - i → i ≤ j → j ≤ p.2.length → (∀ x (h : x < p.2.length), x < i → p.2[x] < v) → (∀ x (h : x < p.2.length), j ≤ x → v ≤ p.2[x]) → k < n →
   ∃ r, r ≤ p.2.length ∧ iterN (fun x : List Pst × (Int × (Int × (Int × (Int × Unit)))) => refHas_s12 x.1 x.2.1 x.2.2.1 x.2.2.2.1 x.2.2.2.2.1) n (R, (v, (((pre.length : Nat) : Int), ((i : Int), ((j : Int), ()))))) = some (R, (v, (((pre.length : Nat) : Int), ((r : Int), ())))) ∧ (∀ x (h : x < p.2.length), x < r → p.2[x] < v) ∧ (∀ x (h : x < p.2.length), r ≤ x → v ≤ p.2[x]) := by
  have hlk := lk_m he
  intro k
  induction k using Nat.strongRecOn with
  | _ k ih =>
   intro i j n hk hij hj h1 h2 hn
   cases n with
   | zero => omega
   | succ n =>
    by_cases hlt : i < j
    ·have c : (i : Int) < (j : Int) := by omega
     have hh : (i + j) / 2 < p.2.length := by omega
     have hw : IntKind.i64.wrap ((((i + j) / 2 : Nat) : Int) + 1) = (((i + j) / 2 + 1 : Nat) : Int) := w_succ (by omega)
     by_cases hv : p.2[(i + j) / 2] < v
     ·obtain ⟨r, r1, r2, r3, r4⟩ := ih (j - ((i + j) / 2 + 1)) (by omega) ((i + j) / 2 + 1) j n rfl (by omega) hj (fun x hx hx2 => by
       rcases Nat.lt_or_ge x ((i + j) / 2) with h | h
       ·have := List.pairwise_iff_getElem.1 hs x ((i + j) / 2) hx hh h
        omega
       ·have : x = (i + j) / 2 := by omega
        subst this; exact hv) h2 (by omega)
      refine ⟨r, r1, ?_, r3, r4⟩
      rw [← r2]
      refine iterN_inl ?_
      simp only [refHas_s12, c, decide_true, cond_true, Option.bind_some, half2 (show i + j < 4611686018427387904 by omega), hlk, lk_get hh, hv, hw, show ((2 : Int) != 0) = true from rfl]
     ·obtain ⟨r, r1, r2, r3, r4⟩ := ih ((i + j) / 2 - i) (by omega) i ((i + j) / 2) n rfl (by omega) (by omega) h1 (fun x hx hx2 => by
       rcases Nat.lt_or_ge ((i + j) / 2) x with h | h
       ·have := List.pairwise_iff_getElem.1 hs ((i + j) / 2) x hh hx h
        omega
       ·have : x = (i + j) / 2 := by omega
        subst this; omega) (by omega)
      refine ⟨r, r1, ?_, r3, r4⟩
      rw [← r2]
      refine iterN_inl ?_
      simp only [refHas_s12, c, decide_true, cond_true, Option.bind_some, half2 (show i + j < 4611686018427387904 by omega), hlk, lk_get hh, hv, decide_false, cond_false, show ((2 : Int) != 0) = true from rfl]
    ·have : i = j := by omega
     subst this
     refine ⟨i, hj, iterN_inr ?_, h1, h2⟩
     simp only [refHas_s12, show decide ((i : Int) < (i : Int)) = false by simp, cond_false, Option.bind_some]
theorem has_loop (R : List Pst) (hR : Nm R) (hb : Small R) (d v : Int) : ∀ (rest pre : List Pst) (n : Nat), R = pre ++ rest → rest.length < n →
   ∃ y, iterN (fun x : List Pst × (Int × (Int × (Int × Unit))) => refHas_s2 x.1 x.2.1 x.2.2.1 x.2.2.2.1) n (R, (d, (v, (((pre.length : Nat) : Int), ())))) = some y ∧ ((∃ b, y = .inl (b, ()) ∧ (b = true ↔ M0 rest d v)) ∨ (y = .inr () ∧ ¬ M0 rest d v))
  | [], pre, 0, _, hn => by simp at hn
  | [], pre, n + 1, he, hn => by
   have hlt : ¬ ((pre.length : Nat) : Int) < (R.length : Int) := by rw [he]; simp
   refine ⟨.inr (), iterN_inr ?_, .inr ⟨rfl, by simp [M0]⟩⟩
   simp only [refHas_s2, hlt, decide_false, cond_false, Option.bind_some]
  | p :: rest, pre, 0, _, hn => by simp at hn
  | p :: rest, pre, n + 1, he, hn => by
   have hb1 := hb.1
   have hb2 := hb.2
   have c1 := lt_m he
   have c2 := lk_m he
   have c3 := w_m he (by omega)
   simp only [List.length_cons] at hn
   have hpm : p ∈ R := by rw [he]; simp
   have hpl : p.2.length ≤ cnL R := mem_cnL hpm
   by_cases hd : p.1 = d
   ·obtain ⟨r, r1, r2, r3, r4⟩ := has_bin R pre rest p he v ((hR.row p hpm).2.2.1.imp fun h => by omega) (by omega) p.2.length 0 p.2.length fuN (by omega) (by omega) (Nat.le_refl _) (fun x _ h => by omega) (fun x h h' => by omega) (by have := fuN_le; omega)
    have r2' : iterN (fun x : List Pst × (Int × (Int × (Int × (Int × Unit)))) => refHas_s12 x.1 x.2.1 x.2.2.1 x.2.2.2.1 x.2.2.2.2.1) fuN (R, (v, (((pre.length : Nat) : Int), ((0 : Int), ((p.2.length : Int), ()))))) = some (R, (v, (((pre.length : Nat) : Int), ((r : Int), ())))) := r2
    have hne : (p.1 != d) = false := by simp [hd]
    have hm : M0 (p :: rest) d v ↔ v ∈ p.2 := by
     constructor
     ·rintro ⟨q, hq, e, hv⟩
      have : q = p := doc_eq hR.docs (by rw [he]; exact List.mem_append_right _ hq) hpm (by omega)
      rw [this] at hv; exact hv
     ·intro hv; exact ⟨p, by simp, hd, hv⟩
    by_cases hr : r < p.2.length
    ·have c : (r : Int) < (p.2.length : Int) := by omega
     refine ⟨.inl (p.2[r] == v, ()), iterN_inr ?_, .inl ⟨_, rfl, ?_⟩⟩
     ·simp only [refHas_s2, c1, decide_true, cond_true, Option.bind_some, c2, hne, cond_false, r2', c, lk_get hr]
     ·rw [hm, beq_iff_eq]
      constructor
      ·intro e; rw [← e]; exact List.getElem_mem hr
      ·intro hv
       obtain ⟨x, hx, e⟩ := List.getElem_of_mem hv
       rcases Nat.lt_or_ge x r with h | h
       ·have := r3 x hx h; omega
       ·rcases Nat.lt_or_ge r x with h' | h'
        ·have h5 := List.pairwise_iff_getElem.1 (hR.row p hpm).2.2.1 r x hr hx h'
         have := r4 r hr (Nat.le_refl _)
         omega
        ·have : x = r := by omega
         subst this; exact e
    ·have c : ¬ (r : Int) < (p.2.length : Int) := by omega
     refine ⟨.inl (false, ()), iterN_inr ?_, .inl ⟨_, rfl, ?_⟩⟩
     ·simp only [refHas_s2, c1, decide_true, decide_false, cond_true, Option.bind_some, c2, hne, cond_false, r2', c]
     ·rw [hm]
      constructor
      ·intro h; cases h
      ·intro hv
       obtain ⟨x, hx, e⟩ := List.getElem_of_mem hv
       have := r3 x hx (by omega)
       omega
   ·have hne : (p.1 != d) = true := by simp [hd]
    obtain ⟨y, y1, y2⟩ := has_loop R hR hb d v rest (pre ++ [p]) n (by rw [he]; exact app_mid) (by omega)
    have hm : M0 (p :: rest) d v ↔ M0 rest d v := by
     constructor
     ·rintro ⟨q, hq, e, hv⟩
      rcases List.mem_cons.1 hq with rfl | hq
      ·exact absurd e hd
      ·exact ⟨q, hq, e, hv⟩
     ·rintro ⟨q, hq, h⟩; exact ⟨q, by simp [hq], h⟩
    refine ⟨y, ?_, by rw [hm]; exact y2⟩
    rw [← y1]
    refine iterN_inl ?_
    simp only [refHas_s2, c1, decide_true, cond_true, Option.bind_some, c2, hne, c3]
theorem refHas_is (R : List Pst) (hR : Nm R) (hb : Small R) (d v : Int) : ∃ b, refHas R d v = some ((), (b, ())) ∧ (b = true ↔ M0 R d v) := by
  obtain ⟨y, y1, y2⟩ := has_loop R hR hb d v R [] fuN rfl (by have := fuN_le; have := hb.1; omega)
  have y1' : iterN (fun x : List Pst × (Int × (Int × (Int × Unit))) => refHas_s2 x.1 x.2.1 x.2.2.1 x.2.2.2.1) fuN (R, (d, (v, ((0 : Int), ())))) = some y := y1
  rcases y2 with ⟨b, rfl, hb⟩ | ⟨rfl, hn⟩
  ·exact ⟨b, by simp only [refHas, y1', Option.bind_some], hb⟩
  ·exact ⟨false, by simp only [refHas, y1', Option.bind_some], by simp [hn]⟩
theorem room24 {n : Nat} (h : n ≤ 1000000000) : roomOk n 24 = true := by
  unfold roomOk
  simp only [decide_eq_true_eq]
  omega
section
variable {first : List Pst} {norms : List (List Pst)} {r : List Pst} {at' : List Int}
theorem rp_j (hn : norms.length ≤ 10000000) (hN : ∀ R ∈ norms, Nm R ∧ Small R) (pre0 rest0 : List Pst) (p : Pst) (he0 : first = pre0 ++ p :: rest0) (acc : List Int) (q r' : List Int) (a : Int) (hq : p.2 = q ++ a :: r') (ha : 0 ≤ a ∧ a ≤ 9223372036854775807) : ∀ (rest pre : List (List Pst)) (ok : Bool) (n : Nat), norms = pre ++ rest → rest.length < n →
   ∃ b, iterN (fun x : List Pst × (List (List Pst) × (List Pst × (Int × (Pst × (Int × (Bool × (Int × Unit))))))) => refPhrase_s34 x.1 x.2.1 x.2.2.1 x.2.2.2.1 x.2.2.2.2.1 x.2.2.2.2.2.1 x.2.2.2.2.2.2.1 x.2.2.2.2.2.2.2.1) n (first, (norms, (r, (((pre0.length : Nat) : Int), ((p.1, acc), (((q.length : Nat) : Int), (ok, (((pre.length : Nat) : Int), ())))))))) = some (first, (norms, (r, (((pre0.length : Nat) : Int), ((p.1, acc), (((q.length : Nat) : Int), (b, ()))))))) ∧
    (b = true ↔ ok = true ∧ ∀ (j : Nat) R, rest[j]? = some R → a ≤ 9223372036854775807 - ((pre.length + j : Nat) : Int) ∧ M0 R p.1 (a + ((pre.length + j : Nat) : Int)))
  | [], pre, ok, 0, _, hn => by simp at hn
  | [], pre, ok, n + 1, he, hn' => by
   have hlt : ¬ ((pre.length : Nat) : Int) < (norms.length : Int) := by rw [he]; simp
   refine ⟨ok, iterN_inr ?_, by simp⟩
   simp only [refPhrase_s34, hlt, decide_false, cond_false, Option.bind_some]
  | R :: rest, pre, ok, 0, _, hn' => by simp at hn'
  | R :: rest, pre, ok, n + 1, he, hn' => by
   have c1 := lt_m he
   have c2 := lk_m he
   have c3 := w_m he (by omega)
   have c4 := lk_m he0
   have c5 := lk_m hq
   have := pre_le he
   simp only [List.length_cons] at hn'
   cases ok with
   | false =>
    refine ⟨false, iterN_inr ?_, by simp⟩
    simp only [refPhrase_s34, c1, decide_true, cond_true, cond_false, Option.bind_some]
   | true =>
    have w1 : IntKind.i64.wrap ((9223372036854775807 : Int) - ((pre.length : Nat) : Int)) = 9223372036854775807 - ((pre.length : Nat) : Int) := by rw [wrap64] <;> omega
    by_cases hc : a ≤ 9223372036854775807 - ((pre.length : Nat) : Int)
    ·have w2 : IntKind.i64.wrap (a + ((pre.length : Nat) : Int)) = a + ((pre.length : Nat) : Int) := by rw [wrap64] <;> omega
     obtain ⟨hR1, hR2⟩ := hN R (by rw [he]; simp)
     obtain ⟨b, b1, b2⟩ := refHas_is R hR1 hR2 p.1 (a + ((pre.length : Nat) : Int))
     obtain ⟨b', g1, g2⟩ := rp_j hn hN pre0 rest0 p he0 acc q r' a hq ha rest (pre ++ [R]) b n (by rw [he]; exact app_mid) (by omega)
     refine ⟨b', ?_, ?_⟩
     ·rw [← g1]
      refine iterN_inl ?_
      simp only [refPhrase_s34, c1, decide_true, cond_true, Option.bind_some, c2, c4, c5, w1, hc, w2, b1, c3]
     ·rw [g2, b2]
      simp only [true_and]
      constructor
      ·rintro ⟨h1, h2⟩ j R' hj
       cases j with
       | zero => cases hj; exact ⟨hc, h1⟩
       | succ j =>
        have := h2 j R' hj
        rw [show (pre ++ [R]).length + j = pre.length + (j + 1) by simp; omega] at this
        exact this
      ·intro h
       refine ⟨(h 0 R rfl).2, fun j R' hj => ?_⟩
       rw [show (pre ++ [R]).length + j = pre.length + (j + 1) by simp; omega]
       exact h (j + 1) R' hj
    ·obtain ⟨b', g1, g2⟩ := rp_j hn hN pre0 rest0 p he0 acc q r' a hq ha rest (pre ++ [R]) false n (by rw [he]; exact app_mid) (by omega)
     refine ⟨b', ?_, ?_⟩
     ·rw [← g1]
      refine iterN_inl ?_
      simp only [refPhrase_s34, c1, decide_true, decide_false, cond_true, cond_false, Option.bind_some, c4, c5, w1, hc, c3]
     ·rw [g2]
      constructor
      ·rintro ⟨h, _⟩; cases h
      ·rintro ⟨_, h⟩; exact absurd (h 0 R rfl).1 hc
def kpN (norms : List (List Pst)) (d n : Int) : Prop := ∀ (j : Nat) R, norms[j]? = some R → n ≤ 9223372036854775807 - ((j : Nat) : Int) ∧ M0 R d (n + ((j : Nat) : Int))
theorem rp_k (hn : norms.length ≤ 10000000) (hN : ∀ R ∈ norms, Nm R ∧ Small R) (kp : Int → Int → Bool) (hk : ∀ d n, kp d n = true ↔ kpN norms d n) (pre0 rest0 : List Pst) (p : Pst) (he0 : first = pre0 ++ p :: rest0) (hp : ∀ a ∈ p.2, 0 ≤ a ∧ a ≤ 9223372036854775807) (hl : p.2.length ≤ 10000000) :
   iterN (fun x : List Pst × (List (List Pst) × (List Pst × (Int × (Pst × (Int × Unit))))) => refPhrase_s26 x.1 x.2.1 x.2.2.1 x.2.2.2.1 x.2.2.2.2.1 x.2.2.2.2.2.1) fuN (first, (norms, (r, (((pre0.length : Nat) : Int), ((p.1, []), ((0 : Int), ())))))) = some (first, (norms, (r, (((pre0.length : Nat) : Int), ((p.1, p.2.filter (kp p.1)), ()))))) := by
  have c4 := lk_m he0
  refine it_for' (fun q => (first, (norms, (r, (((pre0.length : Nat) : Int), ((p.1, q.filter (kp p.1)), (((q.length : Nat) : Int), ()))))))) p.2 _ (by omega) (fun q a r' hq => ?_) ?_ rfl
  ·have c1 := lt_m hq
   have c2 := lk_m hq
   have c3 := w_m hq (by omega)
   have := pre_le hq
   obtain ⟨b, b1, b2⟩ := rp_j (r := r) hn hN pre0 rest0 p he0 (q.filter (kp p.1)) q r' a hq (hp a (by rw [hq]; simp)) norms [] true fuN rfl (by have := fuN_le; omega)
   have hb : b = kp p.1 a := by
    rw [Bool.eq_iff_iff, b2, hk]
    simp only [true_and, List.length_nil, Nat.zero_add]
    rfl
   subst hb
   have b1' : iterN (fun x : List Pst × (List (List Pst) × (List Pst × (Int × (Pst × (Int × (Bool × (Int × Unit))))))) => refPhrase_s34 x.1 x.2.1 x.2.2.1 x.2.2.2.1 x.2.2.2.2.1 x.2.2.2.2.2.1 x.2.2.2.2.2.2.1 x.2.2.2.2.2.2.2.1) fuN (first, (norms, (r, (((pre0.length : Nat) : Int), ((p.1, q.filter (kp p.1)), (((q.length : Nat) : Int), (true, ((0 : Int), ())))))))) = some (first, (norms, (r, (((pre0.length : Nat) : Int), ((p.1, q.filter (kp p.1)), (((q.length : Nat) : Int), (kp p.1 a, ()))))))) := b1
   have hf := List.length_filter_le (kp p.1) q
   have hr : roomOk ((q.filter (kp p.1)).length + [a].length) 8 = true := room8 (by simp only [List.length_singleton]; omega)
   rw [List.filter_append]
   cases hka : kp p.1 a with
   | true =>
    rw [hka] at b1'
    rw [List.filter_cons_of_pos hka, List.filter_nil]
    simp only [refPhrase_s26, c4, Option.bind_some, c1, decide_true, cond_true, b1', c2, hr, c3]
   | false =>
    rw [hka] at b1'
    rw [List.filter_cons_of_neg (by simp [hka]), List.filter_nil, List.append_nil]
    simp only [refPhrase_s26, c4, Option.bind_some, c1, decide_true, cond_true, cond_false, b1', c3]
  ·have c1 : ¬ ((p.2.length : Nat) : Int) < (p.2.length : Int) := by omega
   simp only [refPhrase_s26, c4, Option.bind_some, c1, decide_false, cond_false]
theorem fR_app (kp : Int → Int → Bool) (A : List Pst) (p : Pst) : fR kp (A ++ [p]) = fR kp A ++ (if p.2.filter (kp p.1) = [] then [] else [(p.1, p.2.filter (kp p.1))]) := by
  have : fR kp (A ++ [p]) = fR kp A ++ fR kp [p] := by simp [fR]
  rw [this, fR_cons]
  simp [fR]
theorem fR_len (kp : Int → Int → Bool) (A : List Pst) : (fR kp A).length ≤ A.length := by
  have := List.length_filter_le (fun p : Pst => !p.2.isEmpty) (A.map fun p => (p.1, p.2.filter (kp p.1)))
  rw [List.length_map] at this
  exact this
theorem rp_i (hn : norms.length ≤ 10000000) (hN : ∀ R ∈ norms, Nm R ∧ Small R) (kp : Int → Int → Bool) (hk : ∀ d n, kp d n = true ↔ kpN norms d n) (hp : ∀ p ∈ first, p.2.length ≤ 10000000 ∧ ∀ a ∈ p.2, 0 ≤ a ∧ a ≤ 9223372036854775807) (hl : first.length ≤ 10000000) :
   iterN (fun x : List Pst × (List (List Pst) × (List Pst × (Int × Unit))) => refPhrase_s17 x.1 x.2.1 x.2.2.1 x.2.2.2.1) fuN (first, (norms, ([], ((0 : Int), ())))) = some (fR kp first, ()) := by
  refine it_for' (fun pre => (first, (norms, (fR kp pre, (((pre.length : Nat) : Int), ()))))) first _ (by omega) (fun pre p rest he => ?_) ?_ rfl
  ·have c1 := lt_m he
   have c2 := lk_m he
   have c3 := w_m he (by omega)
   have := pre_le he
   obtain ⟨hp1, hp2⟩ := hp p (by rw [he]; simp)
   have h1 := rp_k (r := fR kp pre) hn hN kp hk pre rest p he hp2 hp1
   have hf := fR_len kp pre
   rw [fR_app]
   by_cases hz : p.2.filter (kp p.1) = []
   ·rw [if_pos hz, List.append_nil]
    rw [hz] at h1
    have hz' : ¬ (((([] : List Int).length : Nat) : Int) > 0) := by simp
    simp only [refPhrase_s17, c1, decide_true, decide_false, cond_true, cond_false, Option.bind_some, c2, h1, hz', c3]
   ·rw [if_neg hz]
    have hz' : (((p.2.filter (kp p.1)).length : Nat) : Int) > 0 := by have := List.length_pos_iff.2 hz; omega
    have hr : roomOk ((fR kp pre).length + [((p.1, p.2.filter (kp p.1)) : Pst)].length) 32 = true := room32 (by simp only [List.length_singleton]; omega)
    simp only [refPhrase_s17, c1, decide_true, cond_true, Option.bind_some, c2, h1, hz', hr, c3]
  ·have c1 : ¬ ((first.length : Nat) : Int) < (first.length : Int) := by omega
   simp only [refPhrase_s17, c1, decide_false, cond_false, Option.bind_some]
end
def Fit (l : List Pst) : Prop := ∀ p ∈ l, ∀ n ∈ p.2, n ≤ 9223372036854775807
theorem refPhrase_spec (ls : List (List Pst)) (hls : ls.length ≤ 10000000) (hsm : ∀ l ∈ ls, Small l) (hft : ∀ l ∈ ls, Fit l) : ∃ R, SpecV (PhS ls) (refPhrase ls) R := by
  cases ls with
  | nil => exact ⟨[], rfl, nm_nil, fun d n => by simp [M0, PhS]⟩
  | cons l ls =>
   obtain ⟨N, hN⟩ : ∃ N : List Pst → List Pst, ∀ l, Small l → SpecV (M l) (refNorm l) (N l) := by
    classical
    exact ⟨fun l => if h : Small l then Classical.choose (refNorm_spec l h) else [], fun l h => by
     simp only [dif_pos h]; exact Classical.choose_spec (refNorm_spec l h)⟩
   have hsml : ∀ l, Small l → Nm (N l) ∧ Small (N l) := fun l h => by
    have := specV_len (hN l h) fun d n h => h.2.2
    exact ⟨(hN l h).2.1, by have := h.2; omega, by have := h.2; omega⟩
   have h1 : iterN (fun x : List (List Pst) × (List Pst × (List (List Pst) × (Int × Unit))) => refPhrase_s7 x.1 x.2.1 x.2.2.1 x.2.2.2.1) fuN (l :: ls, (N l, ([], ((0 : Int), ())))) = some (N l, ((l :: ls).map N, ())) := by
    refine it_for' (fun pre => (l :: ls, (N l, (pre.map N, (((pre.length : Nat) : Int), ()))))) (l :: ls) _ (by omega) (fun pre x rest he => ?_) ?_ rfl
    ·have c1 := lt_m he
     have c2 := lk_m he
     have c3 := w_m he (by omega)
     have := pre_le he
     have hr : roomOk ((pre.map N).length + [N x].length) 24 = true := room24 (by simp only [List.length_map, List.length_singleton]; omega)
     have hx := (hN x (hsm x (by rw [he]; simp))).1
     simp only [refPhrase_s7, c1, decide_true, cond_true, Option.bind_some, c2, hx, hr, c3, List.map_append, List.map_cons, List.map_nil]
    ·have c1 : ¬ (((l :: ls).length : Nat) : Int) < ((l :: ls).length : Int) := by omega
     simp only [refPhrase_s7, c1, decide_false, cond_false, Option.bind_some]
   obtain ⟨kp, hk⟩ : ∃ kp : Int → Int → Bool, ∀ d n, kp d n = true ↔ kpN ((l :: ls).map N) d n := by
    classical
    exact ⟨fun d n => decide (kpN ((l :: ls).map N) d n), fun d n => decide_eq_true_iff⟩
   have hl := hsm l (by simp)
   obtain ⟨nl, sl⟩ := hsml l hl
   have h2 := rp_i (first := N l) (norms := (l :: ls).map N) (by simpa using hls) (fun R hR => by
    obtain ⟨x, hx, rfl⟩ := List.mem_map.1 hR
    exact hsml x (hsm x hx)) kp hk (fun p hp => ⟨by have := mem_cnL hp; have := sl.2; omega, fun a ha => ⟨(nl.row p hp).2.2.2 a ha, by
     obtain ⟨_, _, x, hx, _, hax⟩ := ((hN l hl).2.2 p.1 a).1 ⟨p, hp, rfl, ha⟩
     exact hft l (by simp) x hx a hax⟩⟩) sl.1
   refine ⟨fR kp (N l), ?_, nm_fR nl, fun d n => ?_⟩
   ·have hz : (((l :: ls).length : Int) == (0 : Int)) = false := by first | (simp; done) | (simp; omega)
    have h0 : lk (l :: ls) (0 : Int) = some l := rfl
    simp only [refPhrase, hz, cond_false, Option.bind_some, h0, (hN l hl).1, h1, h2]
   ·rw [m0_fR, hk, (hN l hl).2.2]
    simp only [PhS, kpN]
    constructor
    ·rintro ⟨h1, h2⟩
     refine ⟨h1, fun j l' hj => ?_⟩
     obtain ⟨g1, g2⟩ := h2 (j + 1) (N l') (by rw [List.getElem?_map, List.getElem?_cons_succ, hj]; rfl)
     rw [(hN l' (hsm l' (by simp [List.mem_of_getElem? hj]))).2.2] at g2
     refine ⟨by omega, ?_⟩
     rw [show n + (j : Int) + 1 = n + ((j + 1 : Nat) : Int) by omega]; exact g2
    ·rintro ⟨h1, h2⟩
     refine ⟨h1, fun j R hj => ?_⟩
     rw [List.getElem?_map] at hj
     cases j with
     | zero =>
      simp only [List.getElem?_cons_zero, Option.map_some, Option.some.injEq] at hj
      subst hj
      have h1' := h1
      obtain ⟨_, _, x, hx, _, hax⟩ := h1'
      have := hft l (by simp) x hx n hax
      refine ⟨by omega, ?_⟩
      rw [(hN l hl).2.2, show n + ((0 : Nat) : Int) = n by omega]
      exact h1
     | succ j =>
      rw [List.getElem?_cons_succ] at hj
      cases hq : ls[j]? with
      | none => rw [hq] at hj; cases hj
      | some l' =>
       rw [hq] at hj
       cases hj
       obtain ⟨g1, g2⟩ := h2 j l' hq
       refine ⟨by omega, ?_⟩
       rw [(hN l' (hsm l' (by simp [List.mem_of_getElem? hq]))).2.2, show n + ((j + 1 : Nat) : Int) = n + (j : Int) + 1 by omega]
       exact g2
end Go.Vu.Mg
namespace Go.Vu.Mg
open Go Go.Vu Go.Sort Go.Vu.Srt
noncomputable def fixedG (ra rb : List Rw) (P0 : Pl) (la : List (List Rw)) (rp : Pl → List Rw) (rn : Pl → List Rw) : Option (Unit × (Bool × Unit)) :=
 bif ((List.all ra (fun u => (hok P0 u.2))) && ((List.all rb (fun u => (hok P0 u.2))) && true)) then
 (Option.bind (or (List.map (fun u => (u.1, (hgetD P0 u.2))) ra) (List.map (fun u => (u.1, (hgetD P0 u.2))) rb)) fun r5 =>
 let l6 := (List.map (fun u => (u.1, (shH P0.length u.2))) r5.2.1.2)
 let l7 := (P0 ++ shL' P0 (fun (u : Int) => u) r5.2.1.1.1)
 bif ((l6.length : Int) == (3 : Int)) then
 bif ((List.all ra (fun u => (hok l7 u.2))) && ((List.all rb (fun u => (hok l7 u.2))) && true)) then
 (Option.bind (and (List.map (fun u => (u.1, (hgetD l7 u.2))) ra) (List.map (fun u => (u.1, (hgetD l7 u.2))) rb)) fun r8 =>
 let v9 := ((List.map (fun u => (u.1, (shH l7.length u.2))) r8.2.1.2).length : Int)
 bif (v9 == (1 : Int)) then
 bif ((List.all ra (fun u => (hok (l7 ++ shL' l7 (fun (u : Int) => u) r8.2.1.1.1) u.2))) && ((List.all rb (fun u => (hok (l7 ++ shL' l7 (fun (u : Int) => u) r8.2.1.1.1) u.2))) && true)) then
 (Option.bind (and (List.map (fun u => (u.1, (hgetD (l7 ++ shL' l7 (fun (u : Int) => u) r8.2.1.1.1) u.2))) ra) (List.map (fun u => (u.1, (hgetD (l7 ++ shL' l7 (fun (u : Int) => u) r8.2.1.1.1) u.2))) rb)) fun r10 =>
 let l11 := (List.map (fun u => (u.1, (shH (l7 ++ shL' l7 (fun (u : Int) => u) r8.2.1.1.1).length u.2))) r10.2.1.2)
 let l12 := ((l7 ++ shL' l7 (fun (u : Int) => u) r8.2.1.1.1) ++ shL' (l7 ++ shL' l7 (fun (u : Int) => u) r8.2.1.1.1) (fun (u : Int) => u) r10.2.1.1.1)
 (Option.bind (lk l11 (0 : Int)) fun _x13 =>
 (Option.bind (lk l11 (0 : Int)) fun x14 =>
 bif (((hlen x14.2 : Nat) : Int) == (3 : Int)) then
 bif ((List.all ra (fun u => (hok l12 u.2))) && ((List.all rb (fun u => (hok l12 u.2))) && true)) then
 (Option.bind (minus (List.map (fun u => (u.1, (hgetD l12 u.2))) ra) (List.map (fun u => (u.1, (hgetD l12 u.2))) rb)) fun r15 =>
 let v16 := ((List.map (fun u => (u.1, (shH l12.length u.2))) r15.2.1.2).length : Int)
 bif (v16 == (1 : Int)) then
 bif ((List.all la (fun u => (List.all u (fun u => (hok (l12 ++ shL' l12 (fun (u : Int) => u) r15.2.1.1.1) u.2))))) && true) then
 (Option.bind (phrase (List.map (fun u => (List.map (fun u => (u.1, (hgetD (l12 ++ shL' l12 (fun (u : Int) => u) r15.2.1.1.1) u.2))) u)) la)) fun r17 =>
 let l18 := (List.map (fun u => (u.1, (shH (l12 ++ shL' l12 (fun (u : Int) => u) r15.2.1.1.1).length u.2))) r17.2.1.2)
 let l19 := ((l12 ++ shL' l12 (fun (u : Int) => u) r15.2.1.1.1) ++ shL' (l12 ++ shL' l12 (fun (u : Int) => u) r15.2.1.1.1) (fun (u : Int) => u) r17.2.1.1.1)
 bif ((List.all l18 (fun u => (hok (l19 ++ [some [(0 : Int)]]) u.2))) && ((List.all (rp l19) (fun u => (hok (l19 ++ [some [(0 : Int)]]) u.2))) && true)) then
 (Option.bind (same (List.map (fun u => (u.1, (hgetD (l19 ++ [some [(0 : Int)]]) u.2))) l18) (List.map (fun u => (u.1, (hgetD (l19 ++ [some [(0 : Int)]]) u.2))) (rp l19))) fun r20 =>
 bif r20.2.1 then
 bif ((List.all ra (fun u => (hok (l19 ++ [some [(0 : Int)]]) u.2))) && true) then
 (Option.bind (docs (List.map (fun u => (u.1, (hgetD (l19 ++ [some [(0 : Int)]]) u.2))) ra)) fun r21 =>
 bif ((r21.2.1.length : Int) == (2 : Int)) then
 bif ((List.all (rn (l19 ++ [some [(0 : Int)]])) (fun u => (hok ((l19 ++ [some [(0 : Int)]]) ++ [some [(0 : Int)]]) u.2))) && true) then
 (Option.bind (norm (List.map (fun u => (u.1, (hgetD ((l19 ++ [some [(0 : Int)]]) ++ [some [(0 : Int)]]) u.2))) (rn (l19 ++ [some [(0 : Int)]])))) fun r23 =>
 let l24 := (List.map (fun u => (u.1, (shH ((l19 ++ [some [(0 : Int)]]) ++ [some [(0 : Int)]]).length u.2))) r23.2.1.2)
 let l25 := (((l19 ++ [some [(0 : Int)]]) ++ [some [(0 : Int)]]) ++ shL' ((l19 ++ [some [(0 : Int)]]) ++ [some [(0 : Int)]]) (fun (u : Int) => u) r23.2.1.1.1)
 some ((), (((l24.length : Int) == (0 : Int)), ())))
 else none
 else
 some ((), (false, ())))
 else none
 else
 some ((), (false, ())))
 else none)
 else none
 else
 some ((), (false, ())))
 else none
 else
 some ((), (false, ())))))
 else none
 else
 some ((), (false, ())))
 else none
 else
 some ((), (false, ())))
 else none
theorem fixed_G : fixed = fixedG ([((1 : Int), 0, [(0 : Int), 4]), (3, 1, [2])].map rwT) ([((1 : Int), 2, [(1 : Int)]), (2, 3, [9])].map rwT) [some [0, 4], some [2], some [1], some [9]] [[((1 : Int), 0, [(0 : Int), 4]), (3, 1, [2])].map rwT, [((1 : Int), 2, [(1 : Int)]), (2, 3, [9])].map rwT] (fun q => [((1 : Int), (some (q.length, 0, 1) : HH))]) (fun q => [((-1 : Int), (some (q.length, 0, 1) : HH)), (4, none)]) := rfl
theorem M0_nil (d n : Int) : M0 [] d n ↔ False := by simp [M0]
theorem M0_cons (p : Pst) (l : List Pst) (d n : Int) : M0 (p :: l) d n ↔ (p.1 = d ∧ n ∈ p.2) ∨ M0 l d n := by
  unfold M0
  constructor
  ·rintro ⟨q, hq, h⟩
   rcases List.mem_cons.1 hq with rfl | hq
   ·exact .inl h
   ·exact .inr ⟨q, hq, h⟩
  ·rintro (h | ⟨q, hq, h⟩)
   ·exact ⟨p, by simp, h⟩
   ·exact ⟨q, by simp [hq], h⟩
theorem own_app' {q q' : Pl} {T : List Tr} (h : OwnT q T) : OwnT (q ++ q') T ↔ True := iff_of_true (own_app h q') trivial
theorem own_sh' {q q0 : Pl} {T : List Tr} (h : OwnT q T) : OwnT (q0 ++ q) (T.map (shT q0.length)) ↔ True := iff_of_true (own_sh h q0) trivial
theorem hget_new (q : Pl) (u : List Int) {n : Nat} (h : u.length = n) : hget (q ++ [some u]) (some (q.length, 0, n)) = some u := by
  subst h
  simp [hget]
theorem hok_new (q : Pl) (u : List Int) {n : Nat} (h : u.length = n) : hok (q ++ [some u]) (some (q.length, 0, n)) = true := by unfold hok; rw [hget_new q u h]
theorem hgetD_new (q : Pl) (u : List Int) {n : Nat} (h : u.length = n) : hgetD (q ++ [some u]) (some (q.length, 0, n)) = u := by unfold hgetD; rw [hget_new q u h]
abbrev exA : List Pst := [(1, [0, 4]), (3, [2])]
abbrev exB : List Pst := [(1, [1]), (2, [9])]
abbrev tA : List Tr := [((1 : Int), 0, [(0 : Int), 4]), (3, 1, [2])]
abbrev tB : List Tr := [((1 : Int), 2, [(1 : Int)]), (2, 3, [9])]
abbrev qAB : Pl := [some [0, 4], some [2], some [1], some [9]]
theorem ownA : OwnT qAB tA := ⟨by decide, by decide⟩
theorem ownB : OwnT qAB tB := ⟨by decide, by decide⟩
theorem MA (d n : Int) : M exA d n ↔ (d = 1 ∧ (n = 0 ∨ n = 4)) ∨ (d = 3 ∧ n = 2) := by
  simp only [M, M0_cons, M0_nil, List.mem_cons, List.not_mem_nil, or_false]; omega
theorem MB (d n : Int) : M exB d n ↔ (d = 1 ∧ n = 1) ∨ (d = 2 ∧ n = 9) := by
  simp only [M, M0_cons, M0_nil, List.mem_cons, List.not_mem_nil, or_false]; omega
theorem DA (d : Int) : Dn exA d ↔ d = 1 ∨ d = 3 := by
  unfold Dn
  simp only [MA]
  constructor
  ·rintro ⟨k, h⟩; omega
  ·rintro (rfl | rfl)
   ·exact ⟨0, by omega⟩
   ·exact ⟨2, by omega⟩
theorem DB (d : Int) : Dn exB d ↔ d = 1 ∨ d = 2 := by
  unfold Dn
  simp only [MB]
  constructor
  ·rintro ⟨k, h⟩; omega
  ·rintro (rfl | rfl)
   ·exact ⟨1, by omega⟩
   ·exact ⟨9, by omega⟩
theorem nm_lit {R : List Pst} (h1 : R.Pairwise fun p q => p.1 < q.1) (h2 : ∀ p ∈ R, 0 ≤ p.1 ∧ p.2 ≠ [] ∧ p.2.Pairwise (· < ·) ∧ ∀ n ∈ p.2, 0 ≤ n) : Nm R := ⟨h1, h2⟩
theorem smA : Small exA := ⟨by decide, by decide⟩
theorem smB : Small exB := ⟨by decide, by decide⟩
theorem fixed_core (tA tB : List Tr) (Q : Pl) (oA : OwnT Q tA) (oB : OwnT Q tB) (pA : tA.map pst = exA) (pB : tB.map pst = exB) : fixedG (tA.map rwT) (tB.map rwT) Q [tA.map rwT, tB.map rwT] (fun q => [((1 : Int), (some (q.length, 0, 1) : HH))]) (fun q => [((-1 : Int), (some (q.length, 0, 1) : HH)), (4, none)]) = some ((), (true, ())) := by
  obtain ⟨R1, ⟨q1, T1, a1, o1, p1⟩, n1, m1⟩ := or_spec exA exB (by decide) (by decide)
  have e1 : R1 = [(1, [0, 1, 4]), (2, [9]), (3, [2])] := nm_ext n1 (nm_lit (by decide) (by decide)) fun d n => by
   refine (m1 d n).trans ?_; simp only [MA, MB, M0_cons, M0_nil, List.mem_cons, List.not_mem_nil, or_false]; omega
  obtain ⟨R2, ⟨q2, T2, a2, o2, p2⟩, n2, m2⟩ := and_spec exA exB (by decide) (by decide)
  have e2 : R2 = [(1, [0, 1, 4])] := nm_ext n2 (nm_lit (by decide) (by decide)) fun d n => by
   refine (m2 d n).trans ?_; simp only [MA, MB, DA, DB, M0_cons, M0_nil, List.mem_cons, List.not_mem_nil, or_false]; omega
  obtain ⟨R3, ⟨q3, T3, a3, o3, p3⟩, n3, m3⟩ := minus_spec exA exB smA smB
  have e3 : R3 = [(3, [2])] := nm_ext n3 (nm_lit (by decide) (by decide)) fun d n => by
   refine (m3 d n).trans ?_; simp only [MA, DB, M0_cons, M0_nil, List.mem_cons, List.not_mem_nil, or_false]; omega
  obtain ⟨R4, ⟨q4, T4, a4, o4, p4⟩, n4, m4⟩ := phrase_spec [exA, exB] (by decide) (fun l hl => by
   simp only [List.mem_cons, List.not_mem_nil, or_false] at hl
   rcases hl with rfl | rfl
   ·exact smA
   ·exact smB)
  have e4 : R4 = [(1, [0])] := nm_ext n4 (nm_lit (by decide) (by decide)) fun d n => by
   rw [m4]
   simp only [PhS, M0_cons, M0_nil, List.mem_cons, List.not_mem_nil, or_false]
   constructor
   ·rintro ⟨h1, h2⟩
    have := h2 0 exB rfl
    rw [MA] at h1
    rw [MB] at this
    omega
   ·intro h
    have hd : d = 1 ∧ n = 0 := by omega
    obtain ⟨rfl, rfl⟩ := hd
    refine ⟨(MA _ _).2 (by omega), fun j l' hj => ?_⟩
    cases j with
    | zero =>
     simp only [List.getElem?_cons_zero, Option.some.injEq] at hj
     subst hj
     exact ⟨by omega, (MB _ _).2 (by omega)⟩
    | succ j => simp at hj
  obtain ⟨R5, ⟨n5, m5⟩, a5⟩ := docs_is exA smA
  have e5 : R5 = [(1, [0, 4]), (3, [2])] := nm_ext n5 (nm_lit (by decide) (by decide)) fun d n => by
   refine (m5 d n).trans ?_; simp only [MA, M0_cons, M0_nil, List.mem_cons, List.not_mem_nil, or_false]; omega
  obtain ⟨R6, ⟨q6, T6, a6, o6, p6⟩, n6, m6⟩ := norm_spec [(-1, [0]), (4, [])] ⟨by decide, by decide⟩
  have e6 : R6 = [] := nm_ext n6 nm_nil fun d n => by
   refine (m6 d n).symm.symm.trans ?_; simp only [M, M0_cons, M0_nil, List.mem_cons, List.not_mem_nil, or_false, and_false]
   constructor
   ·rintro ⟨h1, _, h2, _⟩; omega
   ·intro h; cases h
  subst e1 e2 e3 e4 e5 e6
  have l1 : T1.length = 3 := by simpa using congrArg List.length p1
  have l3 : T3.length = 1 := by simpa using congrArg List.length p3
  have l6 : T6.length = 0 := by simpa using congrArg List.length p6
  obtain ⟨t2, rfl, ht2⟩ : ∃ t, T2 = [t] ∧ t.2.2 = [0, 1, 4] := by
   cases T2 with
   | nil => cases p2
   | cons t T =>
    cases T with
    | nil =>
     simp only [List.map_cons, List.map_nil, List.cons.injEq, and_true, pst, Prod.mk.injEq] at p2
     exact ⟨t, rfl, p2.2⟩
    | cons t' T => simp at p2
  have s4 : same [(1, [0])] [(1, [0])] = some ((), (true, ())) := same_refl _ ⟨by decide, by decide⟩
  have a5' : docs exA = some ((), ([1, 3], ())) := a5
  have z3 : (((3 : Nat) : Int) == (3 : Int)) = true := rfl
  have z1 : (((1 : Nat) : Int) == (1 : Int)) = true := rfl
  have z1' : (((([t2] : List Tr).length : Nat) : Int) == (1 : Int)) = true := rfl
  have z0 : (((0 : Nat) : Int) == (0 : Int)) = true := rfl
  have z2 : (((([1, 3] : List Int).length : Nat) : Int) == (2 : Int)) = true := rfl
  have hlk : ∀ k, lk (List.map rwT (List.map (shT k) [t2])) (0 : Int) = some (rwT (shT k t2)) := fun k => rfl
  have hl2 : ∀ k, (((hlen (rwT (shT k t2)).2 : Nat) : Int) == (3 : Int)) = true := fun k => by
   rw [show hlen (rwT (shT k t2)).2 = t2.2.2.length from rfl, ht2]; rfl
  have k1 : ∀ q : Pl, hok (q ++ [some [0]]) (some (q.length, 0, 1)) = true := fun q => hok_new q [0] rfl
  have k2 : ∀ q : Pl, hgetD (q ++ [some [0]]) (some (q.length, 0, 1)) = [0] := fun q => hgetD_new q [0] rfl
  have k3 : ∀ q : Pl, hok q none = true := fun q => rfl
  have k4 : ∀ q : Pl, hgetD q none = [] := fun q => rfl
  have hl3 : List.all [tA.map rwT, tB.map rwT] = fun f => f (tA.map rwT) && (f (tB.map rwT) && true) := rfl
  have hm2 : ∀ f : List Rw → List Pst, List.map f [tA.map rwT, tB.map rwT] = [f (tA.map rwT), f (tB.map rwT)] := fun f => rfl
  have rp1 : ∀ (h : HH) (f : Rw → Bool), List.all [((1 : Int), h)] f = f (1, h) := fun h f => by simp
  have rp2 : ∀ (h : HH) (f : Rw → Pst), List.map f [((1 : Int), h)] = [f (1, h)] := fun h f => rfl
  have rn1 : ∀ (h h' : HH) (f : Rw → Bool), List.all [((-1 : Int), h), ((4 : Int), h')] f = (f (-1, h) && f (4, h')) := fun h h' f => by simp
  have rn2 : ∀ (h h' : HH) (f : Rw → Pst), List.map f [((-1 : Int), h), ((4 : Int), h')] = [f (-1, h), f (4, h')] := fun h h' f => rfl
  unfold fixedG
  simp (config := { maxDischargeDepth := 20 }) only [all_own, map_own, own_app', own_sh', oA, oB, o4, pA, pB, a1, a2, a3, a4, a5', a6, Option.bind_some, sh_rows, shT_pst, shL_id, List.length_map, l1, l3, l6, Bool.and_self, Bool.and_true, cond_true, z3, z1, z1', z0, z2, hlk, hl2, hl3, hm2, k1, k2, k3, k4, rp1, rp2, rn1, rn2, p4, s4]
theorem fixed_is : fixed = some ((), (true, ())) := by
  rw [fixed_G]
  exact fixed_core tA tB qAB ownA ownB rfl rfl
end Go.Vu.Mg
namespace Go.Vu.Mg
open Go Go.Vu Go.Sort Go.Vu.Srt
theorem spec_small {P : Int → Int → Prop} {o : Option (Unit × (((Pl × Unit) × List Rw) × Unit))} {R l : List Pst} (h : Spec P o R) (hs : ∀ d n, P d n → M0 l d n) {k : Nat} (hl : cnL l ≤ k) : R.length ≤ k ∧ cnL R ≤ k := by
  have := spec_len h hs; omega
theorem or_sub {a b : List Pst} (d n : Int) (h : M a d n ∨ M b d n) : M0 (a ++ b) d n := ((M_app a b d n).2 h).2.2
theorem lOps_is (a b : List Pst) (ha : a.length + b.length ≤ 10000000) (hb : cnL a + cnL b ≤ 10000000) : lOps a b = some ((), (true, ())) := by
  have sa : Small a := ⟨by omega, by omega⟩
  have sb : Small b := ⟨by omega, by omega⟩
  obtain ⟨R1, hR1⟩ := norm_spec a sa
  obtain ⟨R1', hR1'⟩ := refNorm_spec a sa
  have e1 := spec_eq hR1 hR1' fun _ _ => Iff.rfl
  have s1 := spec_small hR1 (l := a) (fun d n h => h.2.2) sa.2
  obtain ⟨D1, D2, d1⟩ := docs_is a sa
  obtain ⟨D1', hD1', d1'⟩ := refDocs_is a sa
  have eD : D1' = D1 := nm_ext hD1'.2.1 D2.nm fun d n => by rw [hD1'.2.2, D2.mem]
  have sD := nm_len D2.nm (l := a) fun d n h => ((D2.mem d n).1 h).2.2
  obtain ⟨R2, hR2⟩ := or_spec a b ha hb
  obtain ⟨R2', hR2'⟩ := refOr_spec a b ha hb
  have e2 := spec_eq hR2 hR2' fun _ _ => Iff.rfl
  have s2 := spec_small hR2 (l := a ++ b) or_sub (k := 10000000) (by rw [cnL_app]; exact hb)
  obtain ⟨R3, hR3⟩ := and_spec a b ha hb
  obtain ⟨R3', hR3'⟩ := refAnd_spec a b ha hb
  have e3 := spec_eq hR3 hR3' fun _ _ => Iff.rfl
  have s3 := spec_small hR3 (l := a ++ b) (fun d n h => or_sub d n h.1) (k := 10000000) (by rw [cnL_app]; exact hb)
  obtain ⟨R4, hR4⟩ := minus_spec a b sa sb
  obtain ⟨R4', hR4'⟩ := refMinus_spec a b sa sb
  have e4 := spec_eq hR4 hR4' fun _ _ => Iff.rfl
  have s4 := spec_small hR4 (l := a) (fun d n h => h.1.2.2) sa.2
  subst e1 e2 e3 e4 eD
  have f1 := hR1'.1
  have f2 := hR2'.1
  have f3 := hR3'.1
  have f4 := hR4'.1
  obtain ⟨⟨q1, T1, a1, o1, p1⟩, _⟩ := hR1
  obtain ⟨⟨q2, T2, a2, o2, p2⟩, _⟩ := hR2
  obtain ⟨⟨q3, T3, a3, o3, p3⟩, _⟩ := hR3
  obtain ⟨⟨q4, T4, a4, o4, p4⟩, _⟩ := hR4
  have g1 := same_refl R1' s1
  have g2 := same_refl R2' s2
  have g3 := same_refl R3' s3
  have g4 := same_refl R4' s4
  have gD := sameN_refl (D1'.map (·.1)) (by simp only [List.length_map]; omega)
  simp (config := { maxDischargeDepth := 20 }) only [lOps, fixed_is, all_own, map_own, own_sh', o1, o2, o3, o4, a1, a2, a3, a4, f1, f2, f3, f4, d1, d1', Option.bind_some, sh_rows, shT_pst, shL_id, p1, p2, p3, p4, g1, g2, g3, g4, gD, Bool.and_true, cond_true]
theorem lPhrases_is (ls : List (List Pst)) (hls : ls.length ≤ 10000000) (hsm : ∀ l ∈ ls, Small l) (hft : ∀ l ∈ ls, Fit l) : lPhrases ls = some ((), (true, ())) := by
  obtain ⟨R1, hR1⟩ := phrase_spec ls hls hsm
  obtain ⟨R1', hR1'⟩ := refPhrase_spec ls hls hsm hft
  have e1 := spec_eq hR1 hR1' fun _ _ => Iff.rfl
  have s1 : Small R1 := by
   cases ls with
   | nil =>
    have : R1 = [] := nm_ext hR1.2.1 nm_nil fun d n => by rw [hR1.2.2]; simp [PhS, M0]
    subst this; exact ⟨by simp, by simp [cnL]⟩
   | cons l ls => exact spec_small hR1 (l := l) (fun d n h => h.1.2.2) (hsm l (by simp)).2
  subst e1
  have f1 := hR1'.1
  obtain ⟨⟨q1, T1, a1, o1, p1⟩, _⟩ := hR1
  have g1 := same_refl R1' s1
  simp (config := { maxDischargeDepth := 20 }) only [lPhrases, fixed_is, all_own, map_own, own_sh', o1, a1, f1, Option.bind_some, sh_rows, shT_pst, shL_id, p1, g1, Bool.and_true, cond_true]
theorem dn_iff {R : List Pst} (h : Nm R) {P : Int → Int → Prop} (hm : ∀ d n, M0 R d n ↔ P d n) (d n : Int) : M R d n ↔ P d n := by
  rw [← hm]
  constructor
  ·exact fun h => h.2.2
  ·rintro ⟨p, hp, rfl, hn⟩
   exact ⟨(h.row p hp).1, (h.row p hp).2.2.2 n hn, p, hp, rfl, hn⟩
set_option maxHeartbeats 8000000 in
theorem lThree_is (a b c : List Pst) (ha : a.length + b.length + c.length ≤ 2000000) (hb : cnL a + cnL b + cnL c ≤ 2000000) : lThree a b c = some ((), (true, ())) := by
  have sa : Small a := ⟨by omega, by omega⟩
  have sb : Small b := ⟨by omega, by omega⟩
  have sc : Small c := ⟨by omega, by omega⟩
  obtain ⟨P3, hP3⟩ := phrase_spec [a, b, c] (by simp) (fun l hl => by
   simp only [List.mem_cons, List.not_mem_nil, or_false] at hl
   rcases hl with rfl | rfl | rfl <;> assumption)
  have sP3 := spec_small hP3 (l := a) (fun d n h => h.1.2.2) (k := 2000000) (by omega)
  obtain ⟨P2, hP2⟩ := phrase_spec [a, b] (by simp) (fun l hl => by
   simp only [List.mem_cons, List.not_mem_nil, or_false] at hl
   rcases hl with rfl | rfl <;> assumption)
  have sP2 := spec_small hP2 (l := a) (fun d n h => h.1.2.2) (k := 2000000) (by omega)
  have mP3 := dn_iff hP3.2.1 hP3.2.2
  have mP2 := dn_iff hP2.2.1 hP2.2.2
  obtain ⟨O1, hO1⟩ := or_spec a b (by omega) (by omega)
  have sO1 := spec_small hO1 (l := a ++ b) or_sub (k := 2000000) (by rw [cnL_app]; omega)
  have mO1 := dn_iff hO1.2.1 hO1.2.2
  obtain ⟨O2, hO2⟩ := or_spec O1 c (by omega) (by omega)
  have sO2 := spec_small hO2 (l := O1 ++ c) or_sub (k := 4000000) (by rw [cnL_app]; omega)
  obtain ⟨O3, hO3⟩ := or_spec b c (by omega) (by omega)
  have sO3 := spec_small hO3 (l := b ++ c) or_sub (k := 2000000) (by rw [cnL_app]; omega)
  have mO3 := dn_iff hO3.2.1 hO3.2.2
  obtain ⟨O4, hO4⟩ := or_spec a O3 (by omega) (by omega)
  have eO : O4 = O2 := nm_ext hO4.2.1 hO2.2.1 fun d n => by
   rw [hO4.2.2, hO2.2.2]
   show (M a d n ∨ M O3 d n) ↔ (M O1 d n ∨ M c d n)
   rw [mO1, mO3]
   show (M a d n ∨ (M b d n ∨ M c d n)) ↔ ((M a d n ∨ M b d n) ∨ M c d n)
   rw [or_assoc]
  obtain ⟨A1, hA1⟩ := and_spec a b (by omega) (by omega)
  have sA1 := spec_small hA1 (l := a ++ b) (fun d n h => or_sub d n h.1) (k := 2000000) (by rw [cnL_app]; omega)
  have mA1 := dn_iff hA1.2.1 hA1.2.2
  obtain ⟨A2, hA2⟩ := and_spec A1 c (by omega) (by omega)
  have sA2 := spec_small hA2 (l := A1 ++ c) (fun d n h => or_sub d n h.1) (k := 4000000) (by rw [cnL_app]; omega)
  obtain ⟨A3, hA3⟩ := and_spec b c (by omega) (by omega)
  have sA3 := spec_small hA3 (l := b ++ c) (fun d n h => or_sub d n h.1) (k := 2000000) (by rw [cnL_app]; omega)
  have mA3 := dn_iff hA3.2.1 hA3.2.2
  obtain ⟨A4, hA4⟩ := and_spec a A3 (by omega) (by omega)
  have dA1 : ∀ d, Dn A1 d ↔ Dn a d ∧ Dn b d := fun d => by
   constructor
   ·rintro ⟨k, hk⟩; exact ((mA1 d k).1 hk).2
   ·rintro ⟨⟨k, hk⟩, h⟩; exact ⟨k, (mA1 d k).2 ⟨.inl hk, ⟨k, hk⟩, h⟩⟩
  have dA3 : ∀ d, Dn A3 d ↔ Dn b d ∧ Dn c d := fun d => by
   constructor
   ·rintro ⟨k, hk⟩; exact ((mA3 d k).1 hk).2
   ·rintro ⟨⟨k, hk⟩, h⟩; exact ⟨k, (mA3 d k).2 ⟨.inl hk, ⟨k, hk⟩, h⟩⟩
  have eA : A4 = A2 := nm_ext hA4.2.1 hA2.2.1 fun d n => by
   rw [hA4.2.2, hA2.2.2]
   show ((M a d n ∨ M A3 d n) ∧ Dn a d ∧ Dn A3 d) ↔ ((M A1 d n ∨ M c d n) ∧ Dn A1 d ∧ Dn c d)
   rw [mA1, mA3, dA1, dA3]
   constructor
   ·rintro ⟨h | ⟨h | h, _⟩, h1, h2, h3⟩
    ·exact ⟨.inl ⟨.inl h, h1, h2⟩, ⟨h1, h2⟩, h3⟩
    ·exact ⟨.inl ⟨.inr h, h1, h2⟩, ⟨h1, h2⟩, h3⟩
    ·exact ⟨.inr h, ⟨h1, h2⟩, h3⟩
   ·rintro ⟨⟨h | h, _⟩ | h, ⟨h1, h2⟩, h3⟩
    ·exact ⟨.inl h, h1, h2, h3⟩
    ·exact ⟨.inr ⟨.inl h, h2, h3⟩, h1, h2, h3⟩
    ·exact ⟨.inr ⟨.inr h, h2, h3⟩, h1, h2, h3⟩
  obtain ⟨Q1, hQ1⟩ := or_spec P3 P2 (by omega) (by omega)
  have eQ : Q1 = P2 := nm_ext hQ1.2.1 hP2.2.1 fun d n => by
   rw [hQ1.2.2, hP2.2.2]
   show (M P3 d n ∨ M P2 d n) ↔ _
   rw [mP3, mP2]
   constructor
   ·rintro (⟨h1, h2⟩ | h)
    ·refine ⟨h1, fun j l' hj => ?_⟩
     cases j with
     | zero => exact h2 0 l' hj
     | succ j => simp at hj
    ·exact h
   ·exact .inr
  obtain ⟨N1, hN1⟩ := minus_spec a b sa sb
  have sN1 := spec_small hN1 (l := a) (fun d n h => h.1.2.2) (k := 2000000) (by omega)
  have mN1 := dn_iff hN1.2.1 hN1.2.2
  obtain ⟨N2, hN2⟩ := minus_spec N1 c ⟨by omega, by omega⟩ sc
  have sN2 := spec_small hN2 (l := N1) (fun d n h => h.1.2.2) (k := 2000000) sN1.2
  obtain ⟨N3, hN3⟩ := minus_spec a O3 sa ⟨by omega, by omega⟩
  have dO3 : ∀ d, Dn O3 d ↔ Dn b d ∨ Dn c d := fun d => by
   constructor
   ·rintro ⟨k, hk⟩
    rcases (mO3 d k).1 hk with h | h
    ·exact .inl ⟨k, h⟩
    ·exact .inr ⟨k, h⟩
   ·rintro (⟨k, hk⟩ | ⟨k, hk⟩)
    ·exact ⟨k, (mO3 d k).2 (.inl hk)⟩
    ·exact ⟨k, (mO3 d k).2 (.inr hk)⟩
  have eN : N3 = N2 := nm_ext hN3.2.1 hN2.2.1 fun d n => by
   rw [hN3.2.2, hN2.2.2]
   show (M a d n ∧ ¬ Dn O3 d) ↔ (M N1 d n ∧ ¬ Dn c d)
   rw [mN1, dO3, not_or, and_assoc]
  subst eO eA eQ eN
  obtain ⟨⟨q1, T1, a1, o1, p1⟩, _⟩ := hP3
  obtain ⟨⟨q2, T2, a2, o2, p2⟩, _⟩ := hP2
  obtain ⟨⟨q3, T3, a3, o3, p3⟩, _⟩ := hO1
  obtain ⟨⟨q4, T4, a4, o4, p4⟩, _⟩ := hO2
  obtain ⟨⟨q5, T5, a5, o5, p5⟩, _⟩ := hO3
  obtain ⟨⟨q6, T6, a6, o6, p6⟩, _⟩ := hO4
  obtain ⟨⟨q7, T7, a7, o7, p7⟩, _⟩ := hA1
  obtain ⟨⟨q8, T8, a8, o8, p8⟩, _⟩ := hA2
  obtain ⟨⟨q9, T9, a9, o9, p9⟩, _⟩ := hA3
  obtain ⟨⟨q10, T10, a10, o10, p10⟩, _⟩ := hA4
  obtain ⟨⟨q11, T11, a11, o11, p11⟩, _⟩ := hQ1
  obtain ⟨⟨q12, T12, a12, o12, p12⟩, _⟩ := hN1
  obtain ⟨⟨q13, T13, a13, o13, p13⟩, _⟩ := hN2
  obtain ⟨⟨q14, T14, a14, o14, p14⟩, _⟩ := hN3
  have g1 := same_refl O4 ⟨by omega, by omega⟩
  have g2 := same_refl A4 ⟨by omega, by omega⟩
  have g3 := same_refl Q1 ⟨by omega, by omega⟩
  have g4 := same_refl N3 ⟨by omega, by omega⟩
  simp (config := { maxDischargeDepth := 40, maxSteps := 100000000 }) only [lThree, fixed_is, all_own, map_own, own_app', own_sh', o1, o2, o3, o4, o5, o6, o7, o8, o9, o10, o11, o12, o13, o14, a1, a2, a3, a4, a5, a6, a7, a8, a9, a10, a11, a12, a13, a14, Option.bind_some, sh_rows, shT_pst, shL_id, p1, p2, p3, p4, p5, p6, p7, p8, p9, p10, p11, p12, p13, p14, g1, g2, g3, g4, Bool.and_true, Bool.not_true, cond_true, cond_false]
end Go.Vu.Mg
namespace Go.Vu.Mg
open Go Go.Vu Go.Sort Go.Vu.Srt
theorem mem_docs {R : List Pst} (h : Nm R) {d : Int} : d ∈ R.map (·.1) ↔ ∃ n, M0 R d n := by
  constructor
  ·intro hd
   obtain ⟨p, hp, e⟩ := List.mem_map.1 hd
   obtain ⟨n, hn⟩ := List.exists_mem_of_ne_nil _ (h.row p hp).2.1
   exact ⟨n, p, hp, e, hn⟩
  ·rintro ⟨n, p, hp, e, _⟩
   exact List.mem_map.2 ⟨p, hp, e⟩
theorem docs_nodup {R : List Pst} (h : Nm R) : (R.map (·.1)).Nodup := List.pairwise_map.2 (h.docs.imp fun h => by omega)
theorem docs_sorted {R : List Pst} (h : Nm R) : (R.map (·.1)).Pairwise (· < ·) := List.pairwise_map.2 h.docs
theorem docs_le {R R' : List Pst} (h : Nm R) (h' : Nm R') (hs : ∀ d, (∃ n, M0 R d n) → ∃ n, M0 R' d n) : R.length ≤ R'.length := by
  have := nodup_le (a := R.map (·.1)) (b := R'.map (·.1)) (docs_nodup h) fun d hd => (mem_docs h').2 (hs d ((mem_docs h).1 hd))
  simpa using this
theorem docs_split {R R1 R2 : List Pst} (h : Nm R) (h1 : Nm R1) (h2 : Nm R2) (hs : ∀ d, (∃ n, M0 R d n) ↔ (∃ n, M0 R1 d n) ∨ ∃ n, M0 R2 d n) (hd : ∀ d, (∃ n, M0 R1 d n) → ¬ ∃ n, M0 R2 d n) : R1.length + R2.length = R.length := by
  have hn : (R1.map (·.1) ++ R2.map (·.1)).Nodup := by
   rw [List.nodup_append]
   refine ⟨docs_nodup h1, docs_nodup h2, fun x hx y hy e => ?_⟩
   subst e
   exact hd x ((mem_docs h1).1 hx) ((mem_docs h2).1 hy)
  have e1 := nodup_le (b := R.map (·.1)) hn fun d hm => by
   refine (mem_docs h).2 ((hs d).2 ?_)
   rcases List.mem_append.1 hm with hm | hm
   ·exact .inl ((mem_docs h1).1 hm)
   ·exact .inr ((mem_docs h2).1 hm)
  have e2 := nodup_le (b := R1.map (·.1) ++ R2.map (·.1)) (docs_nodup h) fun d hm => by
   rcases (hs d).1 ((mem_docs h).1 hm) with g | g
   ·exact List.mem_append_left _ ((mem_docs h1).2 g)
   ·exact List.mem_append_right _ ((mem_docs h2).2 g)
  simp only [List.length_append, List.length_map] at e1 e2
  omega
set_option maxHeartbeats 8000000 in
theorem lAlgebra_is (a b : List Pst) (ha : a.length + b.length ≤ 2000000) (hb : cnL a + cnL b ≤ 2000000) : lAlgebra a b = some ((), (true, ())) := by
  have sa : Small a := ⟨by omega, by omega⟩
  have sb : Small b := ⟨by omega, by omega⟩
  obtain ⟨A, hA⟩ := and_spec a b (by omega) (by omega)
  have sA := spec_small hA (l := a ++ b) (fun d n h => or_sub d n h.1) (k := 2000000) (by rw [cnL_app]; omega)
  have mA := dn_iff hA.2.1 hA.2.2
  obtain ⟨N, hN⟩ := minus_spec a b sa sb
  have sN := spec_small hN (l := a) (fun d n h => h.1.2.2) (k := 2000000) (by omega)
  have mN := dn_iff hN.2.1 hN.2.2
  obtain ⟨O1, hO1⟩ := or_spec a b (by omega) (by omega)
  have sO1 := spec_small hO1 (l := a ++ b) or_sub (k := 2000000) (by rw [cnL_app]; omega)
  obtain ⟨O2, hO2⟩ := or_spec b a (by omega) (by omega)
  have eO : O2 = O1 := nm_ext hO2.2.1 hO1.2.1 fun d n => by
   rw [hO2.2.2, hO1.2.2]
   show (M b d n ∨ M a d n) ↔ (M a d n ∨ M b d n)
   rw [or_comm]
  obtain ⟨A2, hA2⟩ := and_spec b a (by omega) (by omega)
  have eA : A2 = A := nm_ext hA2.2.1 hA.2.1 fun d n => by
   rw [hA2.2.2, hA.2.2]
   show ((M b d n ∨ M a d n) ∧ Dn b d ∧ Dn a d) ↔ ((M a d n ∨ M b d n) ∧ Dn a d ∧ Dn b d)
   rw [or_comm, and_comm (a := Dn b d)]
  obtain ⟨P1, hP1⟩ := phrase_spec [a] (by simp) (fun l hl => by
   simp only [List.mem_cons, List.not_mem_nil, or_false] at hl
   subst hl; exact sa)
  obtain ⟨D, hD⟩ := norm_spec a sa
  have sD := spec_small hD (l := a) (fun d n h => h.2.2) (k := 2000000) (by omega)
  have eP : P1 = D := nm_ext hP1.2.1 hD.2.1 fun d n => by
   rw [hP1.2.2, hD.2.2]
   simp [PhS]
  obtain ⟨D', iD', d1⟩ := docs_is a sa
  have eD : D' = D := nm_ext iD'.nm hD.2.1 fun d n => by rw [iD'.mem, hD.2.2]
  obtain ⟨D2, iD2, d2⟩ := docs_is (A ++ N) ⟨by simp only [List.length_append]; omega, by rw [cnL_app]; omega⟩
  have dA : ∀ d, (∃ n, M0 A d n) ↔ Dn a d ∧ Dn b d := fun d => by
   constructor
   ·rintro ⟨n, h⟩; exact ((hA.2.2 d n).1 h).2
   ·rintro ⟨⟨k, hk⟩, h⟩; exact ⟨k, (hA.2.2 d k).2 ⟨.inl hk, ⟨k, hk⟩, h⟩⟩
  have dN : ∀ d, (∃ n, M0 N d n) ↔ Dn a d ∧ ¬ Dn b d := fun d => by
   constructor
   ·rintro ⟨n, h⟩; have := (hN.2.2 d n).1 h; exact ⟨⟨n, this.1⟩, this.2⟩
   ·rintro ⟨⟨k, hk⟩, h⟩; exact ⟨k, (hN.2.2 d k).2 ⟨hk, h⟩⟩
  have dD : ∀ d, (∃ n, M0 D d n) ↔ Dn a d := fun d => by
   constructor
   ·rintro ⟨n, h⟩; exact ⟨n, (hD.2.2 d n).1 h⟩
   ·rintro ⟨n, h⟩; exact ⟨n, (hD.2.2 d n).2 h⟩
  have hlen : A.length + N.length = D.length := docs_split hD.2.1 hA.2.1 hN.2.1 (fun d => by
   rw [dD, dA, dN]
   by_cases h : Dn b d <;> simp [h]) (fun d h1 h2 => ((dN d).1 h2).2 ((dA d).1 h1).2)
  have eD2 : D2.map (·.1) = D.map (·.1) := srt_ext (lt := (· < ·)) (fun a => by omega) (fun a b c h1 h2 => by omega) (docs_sorted iD2.nm) (docs_sorted hD.2.1) fun d => by
   rw [mem_docs iD2.nm, mem_docs hD.2.1, dD]
   constructor
   ·rintro ⟨n, h⟩
    rcases (M_app A N d n).1 ((iD2.mem d n).1 h) with h | h
    ·exact ((dA d).1 ⟨n, h.2.2⟩).1
    ·exact ((dN d).1 ⟨n, h.2.2⟩).1
   ·intro h
    by_cases hb : Dn b d
    ·obtain ⟨n, hn⟩ := (dA d).2 ⟨h, hb⟩
     exact ⟨n, (iD2.mem d n).2 ((M_app A N d n).2 (.inl ((mA d n).2 ((hA.2.2 d n).1 hn))))⟩
    ·obtain ⟨n, hn⟩ := (dN d).2 ⟨h, hb⟩
     exact ⟨n, (iD2.mem d n).2 ((M_app A N d n).2 (.inr ((mN d n).2 ((hN.2.2 d n).1 hn))))⟩
  obtain ⟨P, hP⟩ := phrase_spec [a, b] (by simp) (fun l hl => by
   simp only [List.mem_cons, List.not_mem_nil, or_false] at hl
   rcases hl with rfl | rfl <;> assumption)
  have sP := spec_small hP (l := a) (fun d n h => h.1.2.2) (k := 2000000) (by omega)
  have mP := dn_iff hP.2.1 hP.2.2
  have hPA : ∀ d n, PhS [a, b] d n → Dn a d ∧ Dn b d := fun d n h => ⟨⟨n, h.1⟩, ⟨_, (h.2 0 b rfl).2⟩⟩
  obtain ⟨O3, hO3⟩ := or_spec P a (by omega) (by omega)
  have eO3 : O3 = D := nm_ext hO3.2.1 hD.2.1 fun d n => by
   rw [hO3.2.2, hD.2.2]
   show (M P d n ∨ M a d n) ↔ M a d n
   rw [mP]
   constructor
   ·rintro (h | h)
    ·exact h.1
    ·exact h
   ·exact .inr
  obtain ⟨N2, hN2⟩ := minus_spec P A ⟨by omega, by omega⟩ ⟨by omega, by omega⟩
  have eN2 : N2 = [] := nm_ext hN2.2.1 nm_nil fun d n => by
   rw [hN2.2.2, M0_nil, iff_false]
   rintro ⟨h1, h2⟩
   obtain ⟨k, hk⟩ := (dA d).2 (hPA d n ((mP d n).1 h1))
   exact h2 ⟨k, (mA d k).2 ((hA.2.2 d k).1 hk)⟩
  have lPA : P.length ≤ A.length := docs_le hP.2.1 hA.2.1 fun d ⟨n, h⟩ => (dA d).2 (hPA d n ((hP.2.2 d n).1 h))
  subst eO eA eD eN2
  rw [eD2] at d2
  obtain ⟨⟨q1, T1, a1, o1, p1⟩, _⟩ := hA2
  obtain ⟨⟨q1', T1', a1', o1', p1'⟩, _⟩ := hA
  obtain ⟨⟨q2, T2, a2, o2, p2⟩, _⟩ := hN
  obtain ⟨⟨q3, T3, a3, o3, p3⟩, _⟩ := hO1
  obtain ⟨⟨q4, T4, a4, o4, p4⟩, _⟩ := hO2
  obtain ⟨⟨q6, T6, a6, o6, p6⟩, _⟩ := hP1
  obtain ⟨⟨q7, T7, a7, o7, p7⟩, _⟩ := hD
  obtain ⟨⟨q8, T8, a8, o8, p8⟩, _⟩ := hP
  obtain ⟨⟨q9, T9, a9, o9, p9⟩, _⟩ := hO3
  obtain ⟨⟨q10, T10, a10, o10, p10⟩, _⟩ := hN2
  rw [eP] at p6
  rw [eO3] at p9
  have g1 := same_refl O2 ⟨by omega, by omega⟩
  have g2 := same_refl A2 ⟨by omega, by omega⟩
  have g3 := same_refl D' ⟨by omega, by omega⟩
  have gN := sameN_refl (D'.map (·.1)) (by simp only [List.length_map]; omega)
  have t1 : T1'.length = A2.length := by rw [← p1']; simp
  have t2 : T2.length = N.length := by rw [← p2]; simp
  have t8 : T8.length = P.length := by rw [← p8]; simp
  have t10 : T10.length = 0 := by simpa using congrArg List.length p10
  have hw : (IntKind.i64.wrap ((A2.length : Int) + (N.length : Int)) != (D'.length : Int)) = false := by
   rw [w_add (by omega), hlen]; simp
  have r1 : roomOk A2.length 32 = true := room32 (by omega)
  have r2 : roomOk (A2.length + N.length) 32 = true := room32 (by omega)
  have r0 : List.isEmpty ([] : List Pst) = true := rfl
  have z0 : (((0 : Nat) : Int) == (0 : Int)) = true := rfl
  have zd : decide ((P.length : Int) ≤ (A2.length : Int)) = true := decide_eq_true (by omega)
  simp (config := { maxDischargeDepth := 40, maxSteps := 100000000 }) only [lAlgebra, fixed_is, all_own, map_own, own_app', own_sh', o1, o1', o2, o3, o4, o6, o7, o8, o9, a1, a1', a2, a3, a4, a6, a7, a8, a9, a10, d1, d2, Option.bind_some, sh_rows, shT_pst, shL_id, p1, p1', p2, p3, p4, p6, p7, p8, p9, g1, g2, g3, gN, List.length_map, t1, t2, t8, t10, hw, r0, r1, r2, z0, zd, List.all_append, List.map_append, Bool.and_self, Bool.and_true, Bool.not_true, cond_true, cond_false]
end Go.Vu.Mg
