/- The laws of the paper, in values. -/
import Derived.Test.YtfmhkcidechgdaaGreatVtPp8
set_option linter.unusedVariables false
set_option maxRecDepth 100000
namespace Go.Vt.Pk
open Go Go.Vt Go.Vt.Rm Go.Sort Go.Vt.Srt
theorem fitB_or (p : List In) (w : Ws) (a : Int) : fitB p w a ∨ ¬ fitB p w a := Classical.em _
theorem lRuns_is (p : List In) (w : Ws) (how : Int × (Int × Int)) (h : In8 p w) : lRuns p w how = some ((), (true, ())) := by
  obtain ⟨a, b, c⟩ := how
  have n2 : ((2 : Int) != 0) = true := rfl
  have hm8 := may8_is p h.len h.sets
  rcases fitB_or p w a with hf | hf
  · have hf' := hf
    obtain ⟨hm, h0, h1⟩ := hf'
    obtain ⟨n, rfl⟩ := Int.eq_ofNat_of_zero_le h0
    have hg := h.gd hm
    have hn : n ≤ w.length := by omega
    have e1 : ¬ ((n : Int) < 0) := by omega
    have e2 : ¬ ((n : Int) > (w.length : Int)) := by omega
    have hlo := long10_is p w n ((Int.tmod b 2) != 0) ((Int.tmod c 2) != 0) hg hn
    obtain ⟨s0, s1⟩ := longP_steps (p := p) (beg := (Int.tmod b 2) != 0) (fin := (Int.tmod c 2) != 0) hn
    have hwl := h.wlen
    have hpl := hg.gp.len
    have ew : IntKind.i64.wrap (IntKind.i64.wrap ((w.length : Int) - (n : Int)) + 1) = (w.length : Int) - (n : Int) + 1 := by
      rw [wrap64 (x := (w.length : Int) - (n : Int)) (by omega) (by omega), wrap64] <;> omega
    have hmul : (p.length : Int) * ((w.length : Int) - (n : Int) + 1) ≤ 4096 * 10000001 := Int.mul_le_mul (by omega) (by omega) (by omega) (by omega)
    have hmul0 : 0 ≤ (p.length : Int) * ((w.length : Int) - (n : Int) + 1) := Int.mul_nonneg (by omega) (by omega)
    have ew2 : IntKind.i64.wrap ((p.length : Int) * ((w.length : Int) - (n : Int) + 1)) = (p.length : Int) * ((w.length : Int) - (n : Int) + 1) := by
      rw [wrap64] <;> omega
    simp only [lRuns, fixed_is, Option.bind_some, Bool.not_true, cond_false, n2, cond_true, pLongest_yes h hf, pSteps_yes h hf, hm8, hm, e1, e2, decide_false, hlo, Int.toNat_natCast, beq_self_eq_true, ew, ew2, s1, decide_true]
  · have hno : (bif !mayP p then true else bif decide (a < 0) then true else decide (a > (w.length : Int))) = true := by
      cases hm : mayP p with
      | false => rfl
      | true =>
        by_cases h0 : a < 0
        · simp [h0]
        · have : a > (w.length : Int) := by
            unfold fitB at hf; rw [hm] at hf; simp at hf; omega
          simp [h0, this]
    cases hm : mayP p with
    | false =>
      simp only [lRuns, fixed_is, Option.bind_some, Bool.not_true, cond_false, n2, cond_true, pLongest_no h hf, pSteps_no h hf, hm8, hm, Bool.not_false, beq_self_eq_true]
    | true =>
      rw [hm] at hno
      by_cases h0 : a < 0
      · simp only [lRuns, fixed_is, Option.bind_some, Bool.not_true, cond_false, n2, cond_true, pLongest_no h hf, pSteps_no h hf, hm8, hm, Bool.not_false, beq_self_eq_true, h0, decide_true]
      · have h1 : a > (w.length : Int) := by simpa [h0] using hno
        simp only [lRuns, fixed_is, Option.bind_some, Bool.not_true, cond_false, n2, cond_true, pLongest_no h hf, pSteps_no h hf, hm8, hm, Bool.not_false, beq_self_eq_true, h0, h1, decide_true, decide_false]
theorem lAlls_is (p : List In) (w : Ws) (h : In8 p w) : lAlls p w = some ((), (true, ())) := by
  have hm8 := may8_is p h.len h.sets
  cases hm : mayP p with
  | false =>
    simp only [lAlls, fixed_is, Option.bind_some, Bool.not_true, cond_false, cond_true, pAll_no h hm, pWhole_no h hm, hm8, hm, Bool.not_false, beq_self_eq_true]
    rfl
  | true =>
    have hg := h.gd hm
    have hlo := long10_is p w 0 true true hg (by omega)
    rw [show ((0 : Nat) : Int) = 0 from rfl] at hlo
    have hl : (allL p w).length ≤ 100000000 := by
      have := allP_length p w (w.length + 1) 0
      have := h.wlen
      unfold allL; omega
    simp only [lAlls, fixed_is, Option.bind_some, Bool.not_true, cond_false, cond_true, pAll_yes h hm, pWhole_yes h hm, hm8, hm, beq_self_eq_true, hlo, all10_is p w hg, sameSpans_is _ hl]
    cases (longP p w 0 true true).2.1 with
    | true => simp
    | false => rfl
theorem In8.left {p : List In} {w1 w2 : Ws} (h : In8 p (w1 ++ w2)) : In8 p w1 := ⟨h.len, h.sets, by have := h.wlen; simp at this; omega, fun t ht => h.txt t (by simp [ht])⟩
theorem In8.drop {p : List In} {w : Ws} (h : In8 p w) (n : Nat) : In8 p (w.drop n) := ⟨h.len, h.sets, by have := h.wlen; simp; omega, fun t ht => h.txt t (List.drop_subset _ _ ht)⟩
theorem lMore_is (p : List In) (w1 w2 : Ws) (how : Int × Int) (h : In8 p (w1 ++ w2)) : lMore p (w1, w2) how = some ((), (true, ())) := by
  obtain ⟨a, b⟩ := how
  have n2 : ((2 : Int) != 0) = true := rfl
  have h1 := h.left
  rcases fitB_or p w1 a with hf | hf
  · have hf' := hf
    obtain ⟨hm, h0, hle⟩ := hf'
    obtain ⟨n, rfl⟩ := Int.eq_ofNat_of_zero_le h0
    have hn : n ≤ w1.length := by omega
    have hf2 : fitB p (w1 ++ w2) (n : Int) := ⟨hm, h0, by simp; omega⟩
    have hg := h.gd hm
    cases ho : (longP p w1 n ((Int.tmod b 2) != 0) false).2.2.1 with
    | true => simp only [lMore, fixed_is, Option.bind_some, Bool.not_true, cond_false, n2, cond_true, pLongest_yes h1 hf, Int.toNat_natCast, ho, bne_self_eq_false]
    | false =>
      obtain ⟨a1, a2, a3⟩ := longP_more hg.gp (w2 := w2) (fin := false) hn ho
      obtain ⟨b1, b2, b3⟩ := longP_more hg.gp (w2 := w2) (fin := true) hn ho
      have hwl := h.wlen
      simp only [List.length_append] at hwl
      have r1 : roomOk (([] : List Tx).length + w1.length) 16 = true := roomN (by omega) (by simp; omega)
      have r2 : roomOk (w1.length + w2.length) 16 = true := roomN (by omega) (by omega)
      simp only [lMore, fixed_is, Option.bind_some, Bool.not_true, cond_false, n2, cond_true, pLongest_yes h1 hf, Int.toNat_natCast, ho, bne_self_eq_false, r1, List.nil_append, r2, pLongest_yes h hf2, a1, a2, a3, b1, b2, b3, beq_self_eq_true, Bool.not_false]
  · simp only [lMore, fixed_is, Option.bind_some, Bool.not_true, cond_false, n2, cond_true, pLongest_no h1 hf, show ((1 : Int) != 0) = true from rfl]
theorem cut_drop {α : Type} (w : List α) (n : Nat) : cut w (n : Int) (w.length : Int) = w.drop n := by
  unfold cut
  rw [Int.toNat_natCast]
  exact List.take_of_length_le (by simp)
theorem uwrap_nn (x : Int) : 0 ≤ IntKind.u64.wrap x := by
  simp only [IntKind.wrap, IntKind.signed, IntKind.bits]
  simp
  exact Int.emod_nonneg _ (by decide)
theorem uwrap_id {x : Int} (h0 : 0 ≤ x) (h1 : x < 18446744073709551616) : IntKind.u64.wrap x = x := by
  simp only [IntKind.wrap, IntKind.signed, IntKind.bits]
  simp
  exact Int.emod_eq_of_lt h0 h1
theorem lShifts_is (p : List In) (w : Ws) (how : Int × Int) (h : In8 p w) : lShifts p w how = some ((), (true, ())) := by
  obtain ⟨a, b⟩ := how
  have n2 : ((2 : Int) != 0) = true := rfl
  have hwl := h.wlen
  obtain ⟨n, hn, hat⟩ : ∃ n : Nat, n ≤ w.length ∧ ((bif (decide ((w.length : Int) > (0 : Int))) then
      let v5 := (IntKind.u64.wrap ((IntKind.i64.wrap ((w.length : Int) + (1 : Int)))))
      bif (v5 != 0) then
      let v6 := (IntKind.i64.wrap ((Int.tmod (IntKind.u64.wrap a) v5)))
      some (p, (w, (v6, (((Int.tmod b (2 : Int)) != (0 : Int)), ()))))
      else none
      else
      some (p, (w, ((0 : Int), (((Int.tmod b (2 : Int)) != (0 : Int)), ())))) : Option (List In × (Ws × (Int × (Bool × Unit)))))) = some (p, (w, ((n : Int), (((Int.tmod b (2 : Int)) != (0 : Int)), ())))) := by
    by_cases hp : (w.length : Int) > 0
    · have e1 : IntKind.i64.wrap ((w.length : Int) + 1) = (w.length : Int) + 1 := by rw [wrap64] <;> omega
      have e2 : IntKind.u64.wrap ((w.length : Int) + 1) = (w.length : Int) + 1 := uwrap_id (by omega) (by omega)
      have e3 : (((w.length : Int) + 1) != 0) = true := by simp; omega
      have t0 : 0 ≤ Int.tmod (IntKind.u64.wrap a) ((w.length : Int) + 1) := Int.tmod_nonneg _ (uwrap_nn a)
      have t1 : Int.tmod (IntKind.u64.wrap a) ((w.length : Int) + 1) < (w.length : Int) + 1 := Int.tmod_lt_of_pos _ (by omega)
      have e4 : IntKind.i64.wrap (Int.tmod (IntKind.u64.wrap a) ((w.length : Int) + 1)) = Int.tmod (IntKind.u64.wrap a) ((w.length : Int) + 1) := wrap64 (by omega) (by omega)
      refine ⟨(Int.tmod (IntKind.u64.wrap a) ((w.length : Int) + 1)).toNat, by omega, ?_⟩
      simp only [hp, decide_true, cond_true, e1, e2, e3, e4]
      rw [Int.toNat_of_nonneg t0]
    · refine ⟨0, by omega, ?_⟩
      simp only [hp, decide_false, cond_false]
      rfl
  have hib : inB (n : Int) (w.length : Int) w.length = true := by
    simp only [inB, Bool.and_eq_true, decide_eq_true_eq]; omega
  have hd := h.drop n
  have hnm : ∀ (z k : Int), (z != k) = !(z == k) := fun _ _ => rfl
  simp only [lShifts, fixed_is, Option.bind_some, Bool.not_true, cond_false, n2, cond_true]
  refine Eq.trans (congrArg (fun z => Option.bind z _) hat) ?_
  simp only [Option.bind_some, hib, cond_true, cut_drop]
  cases hm : mayP p with
  | false =>
    have hno : ∀ w a, ¬ fitB p w a := fun w a hf => by rw [hf.1] at hm; cases hm
    simp only [pLongest_no h (hno w _), pLongest_no hd (hno _ _), Option.bind_some, cond_false, cond_true, bne_self_eq_false, beq_self_eq_true, Bool.not_true]
    cases ((n : Int) == 0) <;> rfl
  | true =>
    have hf : fitB p w (n : Int) := ⟨hm, by omega, by omega⟩
    have hf2 : fitB p (w.drop n) 0 := ⟨hm, by omega, by omega⟩
    obtain ⟨g1, g2, g3⟩ := longP_shift p w n ((Int.tmod b 2) != 0) hn
    have hE := longP_end (p := p) (win := w) (at' := n) (beg := false) (fin := (Int.tmod b 2) != 0) hn
    have hE2 := longP_end (p := p) (win := w.drop n) (at' := 0) (beg := false) (fin := (Int.tmod b 2) != 0) (by omega)
    have hlast : ∀ (f : Bool), (bif ((n : Int) == (0 : Int)) then some ((), (true, ())) else
        bif ((longP p w n true ((Int.tmod b 2) != 0)).1 == (longP p w n false ((Int.tmod b 2) != 0)).1) then
        bif ((longP p w n true ((Int.tmod b 2) != 0)).2.1 == (longP p w n false ((Int.tmod b 2) != 0)).2.1) then
        bif ((longP p w n true ((Int.tmod b 2) != 0)).2.2.1 == (longP p w n false ((Int.tmod b 2) != 0)).2.2.1) then some ((), (true, ())) else some ((), (false, ())) else some ((), (false, ())) else some ((), (false, ())) : Option (Unit × (Bool × Unit))) = some ((), (true, ())) := fun _ => by
      by_cases hz : n = 0
      · subst hz; rfl
      · have : ((n : Int) == 0) = false := by simp; omega
        rw [longP_beg p w n _ hz]
        simp only [this, cond_false, beq_self_eq_true, cond_true]
    cases hc : (longP p w n false ((Int.tmod b 2) != 0)).2.1 with
    | true =>
      have e1 := g1 hc
      have hw : IntKind.i64.wrap ((longP p (w.drop n) 0 false ((Int.tmod b 2) != 0)).1 + (n : Int)) = (longP p w n false ((Int.tmod b 2) != 0)).1 := by
        rw [← e1]; exact wrap64 (by omega) (by omega)
      have hl := hlast true
      rw [hc] at hl
      simp only [pLongest_yes h hf, pLongest_yes hd hf2, Option.bind_some, cond_false, cond_true, Int.toNat_natCast, Int.toNat_zero, hc, hw, ← g2, ← g3, bne_self_eq_false, beq_self_eq_true, Bool.not_true]
      exact hl
    | false =>
      have z1 := hE.1 hc
      have z2 := hE2.1 (g2 ▸ hc)
      have hl := hlast true
      rw [hc, z1] at hl
      simp only [pLongest_yes h hf, pLongest_yes hd hf2, Option.bind_some, cond_false, Int.toNat_natCast, Int.toNat_zero, hc, z1, z2, ← g2, ← g3, bne_self_eq_false, beq_self_eq_true, Bool.not_true]
      exact hl
theorem apart_loop (p : List In) (w : Ws) (h : In8 p w) (hm : mayP p = true) (l : List SpanT) (hl : l.length ≤ 100000000) (hgood : ∀ x ∈ l, GoodS p w x) (hfar : l.Pairwise Far) : ∀ (rest pre : List SpanT) (n : Nat), l = pre ++ rest → rest.length < n →
    iterN (fun x => lApart_s6 x.1 x.2.1 x.2.2.1 x.2.2.2.2.1 x.2.2.2.2.2.1) n (p, (w, (l, ((), ((l.length : Int), (((pre.length : Nat) : Int), ())))))) = some (.inr ()) := by
  intro rest
  induction rest with
  | nil =>
    intro pre n hp hn
    obtain ⟨n, rfl⟩ := succ_of hn
    subst hp
    refine iterN_inr ?_
    simp [lApart_s6]
  | cons v rest ih =>
    intro pre n hp hn
    simp only [List.length_cons] at hn
    obtain ⟨n, rfl⟩ := succ_of hn
    have hlt : ((pre.length : Nat) : Int) < (l.length : Int) := by rw [hp]; exact lt_mid
    have hk : lk l ((pre.length : Nat) : Int) = some v := by rw [hp]; exact lk_mid
    have hpl : pre.length ≤ l.length := by rw [hp]; simp
    have ew : IntKind.i64.wrap (((pre.length : Nat) : Int) + 1) = (((pre ++ [v]).length : Nat) : Int) := w_mid (by omega)
    obtain ⟨a, hv, ha, hfd⟩ := hgood v (by rw [hp]; simp)
    have hge := longP_found hfd
    have hE := longP_end (p := p) (beg := true) (fin := true) ha
    have c1 : ¬ ((a : Int) < 0) := by omega
    have c2 : ¬ ((longP p w a true true).1 < (a : Int)) := by omega
    have c3 : ¬ ((longP p w a true true).1 > (w.length : Int)) := by omega
    have hf : fitB p w (a : Int) := ⟨hm, by omega, by omega⟩
    have hpL := pLongest_yes (beg := true) (fin := true) h hf
    rw [Int.toNat_natCast, hfd] at hpL
    refine (iterN_inl ?_).trans (ih (pre ++ [v]) n (by rw [hp]; simp) (by omega))
    rcases List.eq_nil_or_concat pre with he | ⟨pre', u, he⟩
    · have e0 : ¬ (((pre.length : Nat) : Int) > 0) := by rw [he]; simp
      subst hv
      simp only [lApart_s6, hlt, decide_true, decide_false, cond_true, cond_false, hk, Option.bind_some, c1, c2, c3, bne_self_eq_false, e0, hpL, Bool.not_true, ew]
    · have e0 : (((pre.length : Nat) : Int) > 0) := by rw [he]; simp
      have e1 : IntKind.i64.wrap (((pre.length : Nat) : Int) - 1) = ((pre'.length : Nat) : Int) := by rw [he]; simp only [List.concat_eq_append]; exact w_last (by rw [he] at hpl; simp at hpl; omega)
      have hk2 : lk l ((pre'.length : Nat) : Int) = some u := by
        rw [hp, he]; simp only [List.concat_eq_append, List.append_assoc]; exact lk_mid
      have hfu : Far u v := by
        rw [hp, he] at hfar
        simp only [List.concat_eq_append] at hfar
        exact (List.pairwise_append.1 hfar).2.2 u (by simp) v (by simp)
      obtain ⟨f1, f2⟩ := hfu
      subst hv
      dsimp only at f1 f2
      have d1 : ¬ ((a : Int) < u.2.1) := by omega
      have d2 : ¬ ((a : Int) ≤ u.1) := by omega
      simp only [lApart_s6, hlt, decide_true, decide_false, cond_true, cond_false, hk, Option.bind_some, c1, c2, c3, bne_self_eq_false, e0, e1, hk2, d1, d2, hpL, Bool.not_true, ew]
theorem lApart_is (p : List In) (w : Ws) (h : In8 p w) : lApart p w = some ((), (true, ())) := by
  cases hm : mayP p with
  | false =>
    have hit : iterN (fun x => lApart_s6 x.1 x.2.1 x.2.2.1 x.2.2.2.2.1 x.2.2.2.2.2.1) fuN (p, (w, (([] : List SpanT), ((), ((([] : List SpanT).length : Int), ((0 : Int), ())))))) = some (.inr ()) := by
      obtain ⟨n, hn⟩ : ∃ n, fuN = n + 1 := ⟨fuN - 1, by have := fuN_le; omega⟩
      rw [hn]
      exact iterN_inr (by simp [lApart_s6])
    simp only [lApart, fixed_is, Option.bind_some, Bool.not_true, cond_false, pAll_no h hm, hit]
  | true =>
    have hl : (allL p w).length ≤ 100000000 := by
      have := allP_length p w (w.length + 1) 0
      have := h.wlen
      unfold allL; omega
    have hit := apart_loop p w h hm (allL p w) hl (fun x hx => (allP_good p w _ _ x hx).1) (allP_far p w _ _) (allL p w) [] fuN rfl (by have := fuN_le; omega)
    have hit' : iterN (fun x => lApart_s6 x.1 x.2.1 x.2.2.1 x.2.2.2.2.1 x.2.2.2.2.2.1) fuN (p, (w, (allL p w, ((), (((allL p w).length : Int), ((0 : Int), ())))))) = some (.inr ()) := hit
    simp only [lApart, fixed_is, Option.bind_some, Bool.not_true, cond_false, pAll_yes h hm, hit']
end Go.Vt.Pk
