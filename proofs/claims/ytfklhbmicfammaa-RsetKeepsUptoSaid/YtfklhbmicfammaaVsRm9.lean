/- Counting, asking, and the fixed case. -/
import Derived.Test.YtfklhbmicfammaaVsRm8
set_option linter.unusedVariables false
set_option maxRecDepth 100000
namespace Go.Vs.Rs
open Go Go.Vs Go.Vs.Rm Go.Sort Go.Vs.Srt

/- counting -/
theorem card_congr {p q : Int → Bool} : ∀ (n : Nat) (b : Int), (∀ x, b ≤ x → x < b + n → p x = q x) → card p b n = card q b n
  | 0, _, _ => rfl
  | n + 1, b, h => by
    simp only [card]
    rw [h b (Int.le_refl _) (by omega), card_congr n (b + 1) fun x h1 h2 => h x (by omega) (by omega)]
theorem card_split {p : Int → Bool} (n : Nat) : ∀ (m : Nat) (b : Int), card p b (m + n) = card p b m + card p (b + m) n
  | 0, b => by simp [card]
  | m + 1, b => by
    rw [show m + 1 + n = (m + n) + 1 by omega]
    simp only [card]
    rw [card_split n m (b + 1), show b + 1 + (m : Int) = b + ((m + 1 : Nat) : Int) by omega]
    omega
theorem card_all {p : Int → Bool} : ∀ (n : Nat) (b : Int), (∀ x, b ≤ x → x < b + n → p x = true) → card p b n = n
  | 0, _, _ => rfl
  | n + 1, b, h => by
    simp only [card]
    rw [h b (Int.le_refl _) (by omega), card_all n (b + 1) fun x h1 h2 => h x (by omega) (by omega)]
    simp; omega
theorem card_none {p : Int → Bool} : ∀ (n : Nat) (b : Int), (∀ x, b ≤ x → x < b + n → p x = false) → card p b n = 0
  | 0, _, _ => rfl
  | n + 1, b, h => by
    simp only [card]
    rw [h b (Int.le_refl _) (by omega), card_none n (b + 1) fun x h1 h2 => h x (by omega) (by omega)]
    simp
theorem card_or {p q : Int → Bool} : ∀ (n : Nat) (b : Int), card (fun x => p x || q x) b n + card (fun x => p x && q x) b n = card p b n + card q b n
  | 0, _ => rfl
  | n + 1, b => by
    have := card_or (p := p) (q := q) n (b + 1)
    have key : ∀ x y : Bool, (if (x || y) = true then 1 else 0) + (if (x && y) = true then 1 else 0) = (if x = true then 1 else 0) + (if y = true then 1 else 0 : Nat) := by decide
    have := key (p b) (q b)
    simp only [card]
    omega
theorem card_not {p : Int → Bool} : ∀ (n : Nat) (b : Int), card p b n + card (fun x => !p x) b n = n
  | 0, _ => rfl
  | n + 1, b => by
    have := card_not (p := p) n (b + 1)
    have key : ∀ x : Bool, (if x = true then 1 else 0) + (if (!x) = true then 1 else 0) = (1 : Nat) := by decide
    have := key (p b)
    simp only [card]
    omega
theorem card_le {p : Int → Bool} : ∀ (n : Nat) (b : Int), card p b n ≤ n
  | 0, _ => Nat.le_refl _
  | n + 1, b => by
    have := card_le (p := p) n (b + 1)
    simp only [card]
    split <;> omega

def cntL : List Rg → Int
  | [] => 0
  | r :: l => (r.2 - r.1 + 1) + cntL l
theorem cntL_card : ∀ (l : List Rg) (b : Int) (n : Nat), NrmF b l → b + n = 1114112 → cntL l = (card (has l) b n : Nat)
  | [], b, n, _, _ => by
    rw [card_none (p := has []) n b fun _ _ _ => rfl]; rfl
  | r :: l, b, n, h, hn => by
    obtain ⟨h1, h2, h3, h4⟩ := h
    have hge := NrmF.ge h4
    obtain ⟨k1, e1⟩ : ∃ k : Nat, r.1 = b + k := ⟨(r.1 - b).toNat, by omega⟩
    obtain ⟨k2, e2⟩ : ∃ k : Nat, r.2 + 1 = r.1 + k := ⟨(r.2 + 1 - r.1).toNat, by omega⟩
    have e3 : n = k1 + (k2 + (n - k1 - k2)) := by omega
    have ih := cntL_card l (r.2 + 1) (n - k1 - k2) (h4.mono (by omega)) (by omega)
    have hh : ∀ x, has (r :: l) x = ((decide (r.1 ≤ x) && decide (x ≤ r.2)) || has l x) := fun x => rfl
    have hlow : ∀ x, x < r.2 + 2 → has l x = false := by
      intro x hx
      cases hc : has l x with
      | false => rfl
      | true =>
        obtain ⟨q, hq, h5, h6⟩ := has_iff.1 hc
        have := (hge q hq).1
        omega
    have c1 : card (has (r :: l)) b k1 = 0 := card_none _ _ fun x h5 h6 => by
      rw [hh, hlow x (by omega)]; simp; omega
    have c2 : card (has (r :: l)) (b + k1) k2 = k2 := card_all _ _ fun x h5 h6 => by
      rw [hh]; simp; left; omega
    have c3 : card (has (r :: l)) (b + k1 + k2) (n - k1 - k2) = card (has l) (b + k1 + k2) (n - k1 - k2) := card_congr _ _ fun x h5 h6 => by
      rw [hh]
      have : ¬ x ≤ r.2 := by omega
      simp [this]
    rw [e3, card_split, card_split, c1, c2, c3, show b + (k1 : Int) + (k2 : Int) = r.2 + 1 by omega]
    simp only [cntL]
    rw [ih]
    omega
theorem cntL_nrm {l : List Rg} (h : Nrm l) : cntL l = (card (has l) 0 1114112 : Nat) := cntL_card l 0 1114112 h rfl

theorem cnt_pre : ∀ {l : List Rg} {b : Int}, NrmF b l → 0 ≤ cntL l
  | [], _, _ => Int.le_refl _
  | r :: l, b, h => by
    have := cnt_pre h.2.2.2
    have := h.2.1
    simp only [cntL]; omega

theorem count_loop : ∀ (rest pre : List Rg) (c : Int) (n : Nat), pre.length + rest.length ≤ 100000000 → (∀ r ∈ rest, 0 ≤ r.1 ∧ r.1 ≤ r.2 ∧ r.2 ≤ 1114111) → 0 ≤ c → c + 1114112 * rest.length ≤ 1000000000000000 → rest.length < n →
    iterN (fun x => rCount_s3 x.1.1 x.1.2.1 x.1.2.2.1 x.1.2.2.2.1) n ((c, (pre ++ rest, (((pre ++ rest).length : Int), (((pre.length : Nat) : Int), ())))), ()) = some ((c + cntL rest, ()), ()) := by
  intro rest
  induction rest with
  | nil =>
    intro pre c n h1 hv h2 h3 hn
    obtain ⟨n, rfl⟩ := succ_of hn
    refine iterN_inr ?_
    simp [rCount_s3, cntL]
  | cons r rest ih =>
    intro pre c n h1 hv h2 h3 hn
    simp only [List.length_cons] at h1 h3 hn
    obtain ⟨n, rfl⟩ := succ_of hn
    have hr := hv r (by simp)
    have hlt : ((pre.length : Nat) : Int) < ((pre ++ r :: rest).length : Int) := lt_mid
    have ew : IntKind.i64.wrap (((pre.length : Nat) : Int) + 1) = (((pre ++ [r]).length : Nat) : Int) := w_mid (by omega)
    have w1 : IntKind.i32.wrap (r.2 - r.1) = r.2 - r.1 := wrap32 (by omega) (by omega)
    have w2 : IntKind.i64.wrap (r.2 - r.1) = r.2 - r.1 := by rw [wrap64] <;> omega
    have w3 : IntKind.i64.wrap (r.2 - r.1 + 1) = r.2 - r.1 + 1 := by rw [wrap64] <;> omega
    have w4 : IntKind.i64.wrap (c + (r.2 - r.1 + 1)) = c + (r.2 - r.1 + 1) := by rw [wrap64] <;> omega
    have hs := ih (pre ++ [r]) (c + (r.2 - r.1 + 1)) n (by simp; omega) (fun q hq => hv q (by simp [hq])) (by omega) (by omega) (by omega)
    rw [← app_mid, show c + (r.2 - r.1 + 1) + cntL rest = c + cntL (r :: rest) by simp only [cntL]; omega] at hs
    refine (iterN_inl ?_).trans hs
    simp only [rCount_s3, hlt, decide_true, cond_true, lk_mid, Option.bind_some, w1, w2, w3, w4, ew]
theorem rCount_is (l : List Rg) (h : l.length ≤ 50000000) : rCount l = some ((), (cntL (norm l), ())) := by
  have ln := nrm_len (norm_spec l).1
  have h1 := count_loop (norm l) [] 0 fuelN (by simp; omega) (NrmF.ge (norm_spec l).1) (Int.le_refl _) (by omega) (by have := fuelN_le; omega)
  rw [Int.zero_add] at h1
  have h1' : iterN (fun x => rCount_s3 x.1.1 x.1.2.1 x.1.2.2.1 x.1.2.2.2.1) fuelN (((0 : Int), (norm l, (((norm l).length : Int), ((0 : Int), ())))), ()) = some ((cntL (norm l), ()), ()) := h1
  simp only [rCount, rNorm_eq' l h, Option.bind_some, h1']

/- asking -/
def hv (l : List Rg) (x : Int) : Bool := decide (0 ≤ x) && (decide (x ≤ 1114111) && has l x)
theorem index_loop (x L : Int) : ∀ (rest pre : List Rg) (n : Nat), pre.length + rest.length ≤ 100000000 → L = ((pre ++ rest).length : Int) → rest.length < n →
    ∃ y, iterN (fun x => indexFunc_s2 x.1.1 x.1.2.1 x.1.2.2.1 x.1.2.2.2.1) n ((pre ++ rest, ((x, ()), (L, (((pre.length : Nat) : Int), ())))), ()) = some y ∧
      ((has rest x = true ∧ ∃ i : Nat, y = .inl (((i : Int), ()), ())) ∨ (has rest x = false ∧ y = .inr ((), ()))) := by
  intro rest
  induction rest with
  | nil =>
    intro pre n h1 hL hn
    obtain ⟨n, rfl⟩ := succ_of hn
    subst hL
    refine ⟨_, iterN_inr ?_, .inr ⟨rfl, rfl⟩⟩
    simp [indexFunc_s2]
  | cons r rest ih =>
    intro pre n h1 hL hn
    simp only [List.length_cons] at h1 hn
    obtain ⟨n, rfl⟩ := succ_of hn
    have hlt : ((pre.length : Nat) : Int) < L := by rw [hL]; exact lt_mid
    have ew : IntKind.i64.wrap (((pre.length : Nat) : Int) + 1) = (((pre ++ [r]).length : Nat) : Int) := w_mid (by omega)
    obtain ⟨y, h2, h3⟩ := ih (pre ++ [r]) n (by simp; omega) (by rw [hL]; simp) (by omega)
    rw [← app_mid] at h2
    have hf : hasF r x = some ((), (decide (r.1 ≤ x) && decide (x ≤ r.2), ())) := by
      by_cases hc : r.1 ≤ x <;> simp [hasF, hc]
    have hh : has (r :: rest) x = ((decide (r.1 ≤ x) && decide (x ≤ r.2)) || has rest x) := rfl
    cases hc : (decide (r.1 ≤ x) && decide (x ≤ r.2)) with
    | true =>
      rw [hc] at hf hh
      refine ⟨_, iterN_inr (y := .inl ((((pre.length : Nat) : Int), ()), ())) ?_, .inl ⟨by rw [hh]; rfl, _, rfl⟩⟩
      simp only [indexFunc_s2, hlt, decide_true, cond_true, lk_mid, Option.bind_some, hf]
    | false =>
      rw [hc] at hf hh
      refine ⟨y, (iterN_inl ?_).trans h2, by rw [hh]; exact h3⟩
      simp only [indexFunc_s2, hlt, decide_true, cond_true, cond_false, lk_mid, Option.bind_some, hf, ew]
theorem rHas_is (l : List Rg) (x : Int) (h : l.length ≤ 50000000) : rHas l x = some ((), (hv l x, ())) := by
  obtain ⟨y, h1, h2⟩ := index_loop x (l.length : Int) l [] fuelN (by simp; omega) rfl (by have := fuelN_le; omega)
  have h1' : iterN (fun x => indexFunc_s2 x.1.1 x.1.2.1 x.1.2.2.1 x.1.2.2.2.1) fuelN ((l, ((x, ()), ((l.length : Int), ((0 : Int), ())))), ()) = some y := h1
  have hc : containsFunc l (x, ()) = some ((), (has l x, ())) := by
    rcases h2 with ⟨h2, i, rfl⟩ | ⟨h2, rfl⟩
    · have : (i : Int) ≥ 0 := by omega
      simp only [containsFunc, indexFunc, h1', Option.bind_some, h2, this, decide_true]
    · have : ¬ ((-1 : Int) ≥ 0) := by decide
      simp only [containsFunc, indexFunc, h1', Option.bind_some, h2, this, decide_false]
  unfold hv
  by_cases c1 : 0 ≤ x <;> by_cases c2 : x ≤ 1114111 <;> simp [rHas, c1, c2, hc]

theorem refHas_loop (x : Int) : ∀ (rest pre : List Rg) (n : Nat), pre.length + rest.length ≤ 100000000 → rest.length < n →
    iterN (fun x => refHas_s2 x.1.1 x.1.2.1 x.1.2.2.1) n ((pre ++ rest, (x, (((pre.length : Nat) : Int), ()))), ()) = some (if hv rest x = true then .inl ((true, ()), ()) else .inr ((), ())) := by
  intro rest
  induction rest with
  | nil =>
    intro pre n h1 hn
    obtain ⟨n, rfl⟩ := succ_of hn
    refine iterN_inr ?_
    simp [refHas_s2, hv, has]
  | cons r rest ih =>
    intro pre n h1 hn
    simp only [List.length_cons] at h1 hn
    obtain ⟨n, rfl⟩ := succ_of hn
    have hlt : ((pre.length : Nat) : Int) < ((pre ++ r :: rest).length : Int) := lt_mid
    have ew : IntKind.i64.wrap (((pre.length : Nat) : Int) + 1) = (((pre ++ [r]).length : Nat) : Int) := w_mid (by omega)
    have hs := ih (pre ++ [r]) n (by simp; omega) (by omega)
    rw [← app_mid] at hs
    have hh : hv (r :: rest) x = ((decide (0 ≤ x) && (decide (x ≤ 1114111) && (decide (r.1 ≤ x) && decide (x ≤ r.2)))) || hv rest x) := by
      simp only [hv, show has (r :: rest) x = ((decide (r.1 ≤ x) && decide (x ≤ r.2)) || has rest x) from rfl]
      cases decide (0 ≤ x) <;> cases decide (x ≤ 1114111) <;> rfl
    by_cases hc : 0 ≤ x ∧ x ≤ 1114111 ∧ r.1 ≤ x ∧ x ≤ r.2
    · obtain ⟨c1, c2, c3, c4⟩ := hc
      have e : hv (r :: rest) x = true := by rw [hh]; simp [c1, c2, c3, c4]
      rw [e, if_pos rfl]
      refine iterN_inr ?_
      simp only [refHas_s2, hlt, decide_true, cond_true, lk_mid, Option.bind_some, ge_iff_le, c1, c2, c3, c4]
    · have e : hv (r :: rest) x = hv rest x := by
        rw [hh]
        have : (decide (0 ≤ x) && (decide (x ≤ 1114111) && (decide (r.1 ≤ x) && decide (x ≤ r.2)))) = false := by
          cases hb : (decide (0 ≤ x) && (decide (x ≤ 1114111) && (decide (r.1 ≤ x) && decide (x ≤ r.2)))) with
          | false => rfl
          | true => simp only [Bool.and_eq_true, decide_eq_true_eq] at hb; exact absurd hb hc
        rw [this]; rfl
      rw [e]
      refine (iterN_inl ?_).trans hs
      by_cases c1 : 0 ≤ x <;> by_cases c2 : x ≤ 1114111 <;> by_cases c3 : r.1 ≤ x <;> by_cases c4 : x ≤ r.2 <;>
        first
        | (simp only [refHas_s2, hlt, decide_true, decide_false, cond_true, cond_false, lk_mid, Option.bind_some, ge_iff_le, c1, c2, c3, c4, ew]; done)
        | exact absurd ⟨c1, c2, c3, c4⟩ hc
theorem refHas_is (l : List Rg) (x : Int) (h : l.length ≤ 50000000) : refHas l x = some ((), (hv l x, ())) := by
  have h1 := refHas_loop x l [] fuelN (by simp; omega) (by have := fuelN_le; omega)
  have h1' : iterN (fun x => refHas_s2 x.1.1 x.1.2.1 x.1.2.2.1) fuelN ((l, (x, ((0 : Int), ()))), ()) = some (if hv l x = true then .inl ((true, ()), ()) else .inr ((), ())) := h1
  cases hc : hv l x <;> simp [refHas, h1', hc]

theorem rMay_is (l : List Rg) (h : l.length ≤ 50000000) : rMay l = some ((), (decide (norm l = l), ())) := by
  have ln := nrm_len (norm_spec l).1
  simp only [rMay, rNorm_eq' l h, Option.bind_some, slEqual_eq' (norm l) l (by omega)]
theorem rEqual_is (a b : List Rg) (ha : a.length ≤ 50000000) (hb : b.length ≤ 50000000) : rEqual a b = some ((), (decide (norm a = norm b), ())) := by
  have ln := nrm_len (norm_spec a).1
  simp only [rEqual, rNorm_eq' a ha, rNorm_eq' b hb, Option.bind_some, slEqual_eq' (norm a) (norm b) (by omega)]

/- the fixed case -/
theorem fx1 : norm [((5 : Int), (9 : Int)), (1, 3), (4, 4), (8, 7)] = [(1, 9)] := by
  have hc : clipL [((5 : Int), (9 : Int)), (1, 3), (4, 4), (8, 7)] = [(5, 9), (1, 3), (4, 4)] := by decide
  have h := norm_eq (l := [((5 : Int), (9 : Int)), (1, 3), (4, 4), (8, 7)]) (s := [(1, 3), (4, 4), (5, 9)]) (by rw [hc]; decide) (by simp [SortedLo])
  rw [← h]; decide
theorem fx_nrm {l : List Rg} (h : l = [(1, 9)] ∨ l = [(0, 2), (5, 9)] ∨ l = [(0, 9)] ∨ l = [(1, 2), (5, 9)] ∨ l = [(0, 0), (10, 1114111)]) : Nrm l := by
  rcases h with rfl | rfl | rfl | rfl | rfl <;> simp [NrmF]
theorem fx2 : opS dB [((0 : Int), (9 : Int))] [(3, 4)] = [(0, 2), (5, 9)] := op_of (fx_nrm (by simp)) fun x h0 h1 => by
  rw [Bool.eq_iff_iff]; simp [has, dB]; omega
theorem fx3 : opS uB [((1 : Int), (9 : Int))] [(0, 2), (5, 9)] = [(0, 9)] := op_of (fx_nrm (by simp)) fun x h0 h1 => by
  rw [Bool.eq_iff_iff]; simp [has, uB]; omega
theorem fx4 : opS mB [((1 : Int), (9 : Int))] [(0, 2), (5, 9)] = [(1, 2), (5, 9)] := op_of (fx_nrm (by simp)) fun x h0 h1 => by
  rw [Bool.eq_iff_iff]; simp [has, mB]; omega
theorem fx5 : opS nB [((1 : Int), (9 : Int))] [] = [(0, 0), (10, 1114111)] := op_of (fx_nrm (by simp)) fun x h0 h1 => by
  rw [Bool.eq_iff_iff]; simp [has, nB]; omega

theorem fixed_is : fixed = some ((), (true, ())) := by
  have n1 : norm [((1 : Int), (9 : Int))] = [(1, 9)] := norm_nrm (fx_nrm (.inl rfl))
  have s : ∀ l : List Rg, l.length ≤ 10 → l.length ≤ 10000000 := fun l h => by omega
  have a1 := rNorm_eq' [((5 : Int), (9 : Int)), (1, 3), (4, 4), (8, 7)] (by simp)
  have a2 := (rMinus_is [((0 : Int), (9 : Int))] [(3, 4)] (by simp) (by simp)).1
  have a3 := (rUnion_is [((1 : Int), (9 : Int))] [(0, 2), (5, 9)] (by simp) (by simp)).1
  have a4 := (rMeet_is [((1 : Int), (9 : Int))] [(0, 2), (5, 9)] (by simp) (by simp)).1
  have a5 := (rNot_is [((1 : Int), (9 : Int))] (by simp)).1
  have b1 := refSame_is [((1 : Int), (9 : Int))] [(1, 9)] (by simp)
  have b2 := refSame_is [((0 : Int), (2 : Int)), (5, 9)] [(0, 2), (5, 9)] (by simp)
  have b3 := rMay_is [((1 : Int), (9 : Int))] (by simp)
  have b4 := rHas_is [((1 : Int), (9 : Int))] 4 (by simp)
  have b5 := rHas_is [((1 : Int), (9 : Int))] 0 (by simp)
  have b6 := rCount_is [((1 : Int), (9 : Int))] (by simp)
  have b7 := rEqual_is [((1 : Int), (9 : Int))] [(1, 9)] (by simp) (by simp)
  rw [fx1] at a1
  rw [fx2] at a2
  rw [fx3] at a3
  rw [fx4] at a4
  rw [fx5] at a5
  rw [n1] at b3 b6 b7
  have v4 : hv [((1 : Int), (9 : Int))] 4 = true := rfl
  have v0 : hv [((1 : Int), (9 : Int))] 0 = false := rfl
  have c9 : cntL [((1 : Int), (9 : Int))] = 9 := rfl
  rw [v4] at b4
  rw [v0] at b5
  rw [c9] at b6
  simp only [decide_true] at b1 b2 b3 b7
  simp only [fixed, a1, a2, a3, a4, a5, b1, b2, b3, b4, b5, b6, b7, Option.bind_some, cond_true, Bool.not_false, List.length_cons, List.length_nil]
  rfl

/- the laws of the operations -/
theorem lOps_is (a b : List Rg) (ha : a.length ≤ 10000000) (hb : b.length ≤ 10000000) : lOps a b = some ((), (true, ())) := by
  obtain ⟨u1, u2⟩ := rUnion_is a b ha hb
  obtain ⟨m1, m2⟩ := rMeet_is a b ha hb
  obtain ⟨d1, d2⟩ := rMinus_is a b ha hb
  obtain ⟨n1, n2⟩ := rNot_is a ha
  have lu := op_len u2
  have lm := op_len m2
  have ld := op_len d2
  have ln := op_len n2
  have s1 := refSame_is (opS uB a b) (opS uB a b) (by omega)
  have s2 := refSame_is (opS mB a b) (opS mB a b) (by omega)
  have s3 := refSame_is (opS dB a b) (opS dB a b) (by omega)
  have s4 := refSame_is (opS nB a []) (opS nB a []) (by omega)
  simp only [decide_true] at s1 s2 s3 s4
  simp only [lOps, fixed_is, Option.bind_some, cond_true, u1, refUnion_is a b ha hb, s1, m1, refMeet_is a b ha hb, s2, d1, refMinus_is a b ha hb, s3, n1, refNot_is a ha, s4]

/- the laws of the normal list -/
theorem lNorms_loop (p0 p1 q1 q2 : List Rg) : ∀ (rest pre : List Rg) (c : Int) (n : Nat), pre.length + rest.length ≤ 100000000 → (∀ r ∈ rest, 0 ≤ r.1 ∧ r.1 ≤ r.2 ∧ r.2 ≤ 1114111) → 0 ≤ c → c + 1114112 * rest.length ≤ 1000000000000000 → rest.length < n →
    iterN (fun x => lNorms_s8 x.1.1 x.1.2.1 x.1.2.2.1 x.1.2.2.2.1 x.1.2.2.2.2.1 x.1.2.2.2.2.2.1 x.1.2.2.2.2.2.2.1 x.1.2.2.2.2.2.2.2.1) n ((p0, (p1, (q1, (q2, (c, (pre ++ rest, (((pre ++ rest).length : Int), (((pre.length : Nat) : Int), ())))))))), ()) = some ((p0, (p1, (q1, (q2, (c + cntL rest, ()))))), ()) := by
  intro rest
  induction rest with
  | nil =>
    intro pre c n h1 hv h2 h3 hn
    obtain ⟨n, rfl⟩ := succ_of hn
    refine iterN_inr ?_
    simp [lNorms_s8, cntL]
  | cons r rest ih =>
    intro pre c n h1 hv h2 h3 hn
    simp only [List.length_cons] at h1 h3 hn
    obtain ⟨n, rfl⟩ := succ_of hn
    have hr := hv r (by simp)
    have hlt : ((pre.length : Nat) : Int) < ((pre ++ r :: rest).length : Int) := lt_mid
    have ew : IntKind.i64.wrap (((pre.length : Nat) : Int) + 1) = (((pre ++ [r]).length : Nat) : Int) := w_mid (by omega)
    have w0 : IntKind.i64.wrap r.1 = r.1 := by rw [wrap64] <;> omega
    have w1 : IntKind.i64.wrap r.2 = r.2 := by rw [wrap64] <;> omega
    have w2 : IntKind.i64.wrap (r.2 - r.1) = r.2 - r.1 := by rw [wrap64] <;> omega
    have w3 : IntKind.i64.wrap (r.2 - r.1 + 1) = r.2 - r.1 + 1 := by rw [wrap64] <;> omega
    have w4 : IntKind.i64.wrap (c + (r.2 - r.1 + 1)) = c + (r.2 - r.1 + 1) := by rw [wrap64] <;> omega
    have hs := ih (pre ++ [r]) (c + (r.2 - r.1 + 1)) n (by simp; omega) (fun q hq => hv q (by simp [hq])) (by omega) (by omega) (by omega)
    rw [← app_mid, show c + (r.2 - r.1 + 1) + cntL rest = c + cntL (r :: rest) by simp only [cntL]; omega] at hs
    refine (iterN_inl ?_).trans hs
    simp only [lNorms_s8, hlt, decide_true, cond_true, lk_mid, Option.bind_some, w0, w1, w2, w3, w4, ew]

theorem lNorms_is (a b : List Rg) (ha : a.length ≤ 10000000) (hb : b.length ≤ 10000000) : lNorms a b = some ((), (true, ())) := by
  have la := nrm_len (norm_spec a).1
  have lb := nrm_len (norm_spec b).1
  have nn : norm (norm a) = norm a := norm_nrm (norm_spec a).1
  have h1 := lNorms_loop a b (norm a) (norm b) (norm a) [] 0 fuelN (by simp; omega) (NrmF.ge (norm_spec a).1) (Int.le_refl _) (by omega) (by have := fuelN_le; omega)
  rw [Int.zero_add] at h1
  have h1' : iterN (fun x => lNorms_s8 x.1.1 x.1.2.1 x.1.2.2.1 x.1.2.2.2.1 x.1.2.2.2.2.1 x.1.2.2.2.2.2.1 x.1.2.2.2.2.2.2.1 x.1.2.2.2.2.2.2.2.1) fuelN ((a, (b, (norm a, (norm b, ((0 : Int), (norm a, (((norm a).length : Int), ((0 : Int), ())))))))), ()) = some ((a, (b, (norm a, (norm b, (cntL (norm a), ()))))), ()) := h1
  have s1 := refSame_is (norm a) (norm a) (by omega)
  have s2 := refSame_is a (norm a) (by omega)
  have s3 := refSame_is (norm a) (norm b) (by omega)
  have t1 := rMay_is a (by omega)
  have t2 := rMay_is (norm a) (by omega)
  have t3 := rEqual_is a b (by omega) (by omega)
  have t4 := rEqual_is a (norm a) (by omega) (by omega)
  have ec : (norm a = a) ↔ (a = norm a) := ⟨Eq.symm, Eq.symm⟩
  simp only [ec] at t1
  rw [nn] at t2 t4
  simp only [decide_true] at s1 t2 t4
  simp only [lNorms, fixed_is, Option.bind_some, Bool.not_true, cond_true, cond_false, refNorm_is a (by omega), refNorm_is b (by omega), h1', rNorm_eq' a (by omega), s1, s2, s3, t1, t2, t3, t4, rCount_is a (by omega), beq_self_eq_true]

end Go.Vs.Rs
