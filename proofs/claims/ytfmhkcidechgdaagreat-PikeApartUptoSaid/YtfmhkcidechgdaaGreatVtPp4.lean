/- The longest match, as the program finds it. -/
import Derived.Test.YtfmhkcidechgdaaGreatVtPp3
set_option linter.unusedVariables false
set_option maxRecDepth 100000
namespace Go.Vt.Pk
open Go Go.Vt Go.Vt.Rm Go.Sort Go.Vt.Srt
abbrev SpT := List Int × List Int
structure Sp (N : Nat) (s : SpT) : Prop where
  len : s.1.length = N
  nn : ∀ (j : Nat) x, s.1[j]? = some x → 0 ≤ x
  nodup : s.2.Nodup
  at' : ∀ (i : Nat) v, s.2[i]? = some v → 0 ≤ v ∧ v < (N : Int) ∧ lk s.1 v = some ((i : Nat) : Int)
theorem Sp.size {N : Nat} {s : SpT} (h : Sp N s) : s.2.length ≤ N := by
  have hs : s.2 ⊆ (List.range N).map fun k => ((k : Nat) : Int) := fun v hv => by
    obtain ⟨i, hi⟩ := List.getElem?_of_mem hv
    have := h.at' i v hi
    exact List.mem_map.2 ⟨v.toNat, by simp; omega, by omega⟩
  have := List.Nodup.length_le_of_subset h.nodup hs
  simpa using this
theorem spHas_is {N : Nat} {s : SpT} (h : Sp N s) {v : Int} (h0 : 0 ≤ v) (h1 : v < (N : Int)) : spHas (some s) v = some ((), (decide (v ∈ s.2), ())) := by
  have hn0 : ¬ v < 0 := by omega
  have hn1 : ¬ v ≥ (s.1.length : Int) := by rw [h.len]; omega
  obtain ⟨x, hx⟩ := lk_in (l := s.1) h0 (by rw [h.len]; exact h1)
  have hx0 : 0 ≤ x := h.nn _ x (lk_some' hx).2.2
  simp only [spHas, Option.isNone_some, cond_false, hn0, decide_false, Option.bind_some, hn1, hx]
  by_cases h2 : x < (s.2.length : Int)
  · obtain ⟨y, hy⟩ := lk_in (l := s.2) hx0 h2
    have hy' := (lk_some' hy).2.2
    simp only [h2, decide_true, cond_true, hy, Option.bind_some]
    have : (y == v) = decide (v ∈ s.2) := by
      rw [Bool.eq_iff_iff]
      simp only [beq_iff_eq, decide_eq_true_eq]
      constructor
      · rintro rfl; exact List.mem_of_getElem? hy'
      · intro hv
        obtain ⟨i, hi⟩ := List.getElem?_of_mem hv
        have h3 := (h.at' i v hi).2.2
        rw [hx] at h3
        have : x = ((i : Nat) : Int) := by simpa using h3
        subst this
        rw [lk_nat, hi] at hy
        simpa using hy.symm
    rw [this]
  · have : decide (v ∈ s.2) = false := by
      rw [decide_eq_false_iff_not]
      intro hv
      obtain ⟨i, hi⟩ := List.getElem?_of_mem hv
      have h3 := (h.at' i v hi).2.2
      rw [hx] at h3
      have : x = ((i : Nat) : Int) := by simpa using h3
      have := (List.getElem?_eq_some_iff.1 hi).1
      omega
    simp only [h2, decide_false, cond_false, this]
def addS (s : SpT) (v : Int) : SpT := if v ∈ s.2 then s else (s.1.set v.toNat (s.2.length : Int), s.2 ++ [v])
theorem Sp.add {N : Nat} {s : SpT} (h : Sp N s) {v : Int} (h0 : 0 ≤ v) (h1 : v < (N : Int)) : Sp N (addS s v) := by
  unfold addS
  split
  · exact h
  · rename_i hv
    refine ⟨by simpa using h.len, fun j x hj => ?_, ?_, fun i u hi => ?_⟩
    · simp only [List.getElem?_set] at hj
      split at hj
      · split at hj
        · cases hj; omega
        · cases hj
      · exact h.nn j x hj
    · refine List.nodup_append.2 ⟨h.nodup, by simp, fun a ha b hb => ?_⟩
      simp only [List.mem_singleton] at hb
      subst hb
      exact fun e => hv (e ▸ ha)
    · simp only [List.getElem?_append] at hi
      split at hi
      · rename_i hlt
        obtain ⟨g0, g1, g2⟩ := h.at' i u hi
        refine ⟨g0, g1, ?_⟩
        have hne : v ≠ u := fun e => hv (e ▸ List.mem_of_getElem? hi)
        unfold lk at g2 ⊢
        rw [if_pos g0] at g2 ⊢
        simp only [List.getElem?_set]
        rw [if_neg (by omega)]
        exact g2
      · rename_i hge
        have : i - s.2.length = 0 := by
          rcases Nat.eq_zero_or_pos (i - s.2.length) with h | h
          · exact h
          · rw [List.getElem?_eq_none (by simp; omega)] at hi; cases hi
        rw [this] at hi
        simp only [List.getElem?_cons_zero, Option.some.injEq] at hi
        subst hi
        refine ⟨h0, h1, ?_⟩
        unfold lk
        rw [if_pos h0]
        have hl := h.len
        simp only [List.getElem?_set, if_true]
        rw [if_pos (by omega)]
        simp; omega
theorem addS_mem (s : SpT) (v u : Int) : u ∈ (addS s v).2 ↔ u ∈ s.2 ∨ u = v := by
  unfold addS
  split
  · constructor
    · exact .inl
    · rintro (h | rfl) <;> assumption
  · simp
theorem spAdd_is {N : Nat} {s : SpT} (h : Sp N s) (hN : N ≤ 4096) {v : Int} (h0 : 0 ≤ v) (h1 : v < (N : Int)) : spAdd s v = some (addS s v, (!decide (v ∈ s.2), ())) := by
  have hn0 : ¬ v < 0 := by omega
  have hn1 : ¬ v ≥ (s.1.length : Int) := by rw [h.len]; omega
  obtain ⟨x, hx⟩ := lk_in (l := s.1) h0 (by rw [h.len]; exact h1)
  have hsz := h.size
  have hr : roomOk (s.2.length + [v].length) 8 = true := roomN (by omega) (by simp; omega)
  simp only [spAdd, hn0, decide_false, cond_false, hn1, spHas_is h h0 h1, Option.bind_some]
  by_cases hv : v ∈ s.2
  · simp only [hv, decide_true, cond_true, Option.bind_some, addS, if_true, Bool.not_true]
  · simp only [hv, decide_false, cond_false, Option.bind_some, addS, if_false, Bool.not_false, hx, hr, cond_true]
theorem spClear_is (s : SpT) : spClear s = some ((s.1, []), ()) := by
  simp [spClear, inB]
theorem Sp.clear {N : Nat} {s : SpT} (h : Sp N s) : Sp N (s.1, []) := ⟨h.len, h.nn, List.Pairwise.nil, fun i v hi => by simp at hi⟩
theorem spLen_is (s : SpT) : spLen (some s) = some ((), ((s.2.length : Int), ())) := by simp [spLen]
theorem spVals_is (s : SpT) (h : s.2.length ≤ 4096) : spVals (some s) = some ((), (s.2, ())) := by
  simp only [spVals, Option.isNone_some, cond_false, Option.bind_some, cloneI]
  rw [if_pos (by omega)]
  rfl
theorem spNew_is (N : Nat) (h : N ≤ 4096) : spNew ((N : Nat) : Int) = some ((), ((List.replicate N 0, []), ())) := by
  have e1 : (if (0 : Int) > ((N : Nat) : Int) then (0 : Int) else ((N : Nat) : Int)) = ((N : Nat) : Int) := by rw [if_neg (by omega)]
  have e2 : (if (65536 : Int) < ((N : Nat) : Int) then (65536 : Int) else ((N : Nat) : Int)) = ((N : Nat) : Int) := by rw [if_neg (by omega)]
  have e3 : mkOk 8 ((N : Nat) : Int) ((N : Nat) : Int) = true := by simp only [mkOk, Bool.and_eq_true, decide_eq_true_eq]; omega
  simp only [spNew, e1, e2, e3, cond_true, Int.toNat_natCast]
theorem Sp.new (N : Nat) : Sp N (List.replicate N 0, []) := ⟨by simp, fun j x hj => by
  obtain ⟨h1, h2⟩ := List.getElem?_eq_some_iff.1 hj
  simp at h2; omega, List.Pairwise.nil, fun i v hi => by simp at hi⟩
def Lk (s : SpT) (r : List Bool) : Prop := ∀ v, v ∈ s.2 ↔ Mk r v
theorem Lk.count {N : Nat} {s : SpT} {r : List Bool} (h : Lk s r) (hs : Sp N s) : s.2.length = r.count true := by
  have e1 : (tds r r.length).Nodup := by
    unfold tds
    refine List.Pairwise.map _ (fun a b (hab : a ≠ b) e => hab (by omega)) ?_
    exact List.Pairwise.filter _ List.nodup_range
  have hp : s.2.Perm (tds r r.length) := (List.perm_ext_iff_of_nodup hs.nodup e1).2 fun v => by rw [h v, tds_mem]
  rw [hp.length_eq]
  have key : ∀ k, k ≤ r.length → (tds r k).length = (r.take k).count true := by
    intro k
    induction k with
    | zero => intro _; simp [tds]
    | succ k ih =>
      intro hk
      have hlt : k < r.length := by omega
      rw [tds_succ, List.length_append, ih (by omega), ← List.take_append_getElem hlt, List.count_append, List.getElem?_eq_getElem hlt]
      cases r[k] <;> simp
  have := key r.length (Nat.le_refl _)
  rwa [List.take_length] at this
abbrev McT := List In × (Ws × (Bool × (Bool × (SpT × (SpT × (List Int × Int))))))
def mc (p : List In) (win : Ws) (beg fin : Bool) (now next : SpT) (todo : List Int) (st : Int) : McT := (p, (win, (beg, (fin, (now, (next, (todo, st)))))))
def Closed (p : List In) (b e : Bool) (s : SpT) (todo : List Int) : Prop := ∀ v ∈ s.2, ∀ u ∈ nx p b e v, u ∈ s.2 ∨ u ∈ todo
theorem reach_step (p : List In) (win : Ws) (beg fin : Bool) (now next : SpT) (T : List Int) (x : Int) (st : Int) (pl : Nat) (hp : GP p) (hn : Sp p.length next) (hx : inN p x) (hT : T.length ≤ 100000) :
    pReach_s2 (mc p win beg fin now next (T ++ [x]) st) (pl : Int) = some (.inl (mc p win beg fin now (addS next x) (if x ∈ next.2 then T else T ++ (nx p (beg && decide (pl = 0)) (fin && decide (pl = win.length)) x).reverse) st, ((pl : Int), ()))) := by
  have hgt : (((T ++ [x]).length : Int) > 0) := by simp only [List.length_append, List.length_cons, List.length_nil]; omega
  have ew := lk_last (T := T) (x := x) (by omega)
  have hl : lk (T ++ [x]) ((T.length : Nat) : Int) = some x := by
    have := lk_mid (pre := T) (rest := []) (x := x); simpa using this
  have hin : inB (0 : Int) ((T.length : Nat) : Int) (T ++ [x]).length = true := by
    simp only [inB, Bool.and_eq_true, decide_eq_true_eq, List.length_append, List.length_cons, List.length_nil]; omega
  have hcut : ((T ++ [x]).drop (0 : Int).toNat).take (((T.length : Nat) : Int) - (0 : Int)).toNat = T := by simp
  obtain ⟨i, hi⟩ := lk_in (l := p) hx.1 hx.2
  have hw : IntKind.i64.wrap (x + 1) = x + 1 := by have := hp.len; have := hx.1; have := hx.2; rw [wrap64] <;> omega
  have b0 : ∀ z k : Int, (z == k) = decide (z = k) := fun z k => by rw [Bool.eq_iff_iff]; simp
  have hadd := spAdd_is hn hp.len hx.1 hx.2
  have d1 : decide (((pl : Nat) : Int) = 0) = decide (pl = 0) := by rw [Bool.eq_iff_iff]; simp
  have d2 : decide (((pl : Nat) : Int) = (win.length : Int)) = decide (pl = win.length) := by rw [Bool.eq_iff_iff]; simp; omega
  simp only [mc, pReach_s2, hgt, decide_true, cond_true, Option.bind_some, ew, hl, hin, hcut, hadd, b0]
  by_cases hm : x ∈ next.2
  · simp only [hm, decide_true, Bool.not_true, Bool.not_false, cond_true, Option.bind_some, if_true]
  have hnx : nx p (beg && decide (pl = 0)) (fin && decide (pl = win.length)) x = if i.1 = 2 then [i.2.2.1, i.2.2.2] else if i.1 = 3 then [i.2.2.1] else if i.1 = 4 then (if (beg && decide (pl = 0)) = true then [x + 1] else []) else if i.1 = 5 then (if (fin && decide (pl = win.length)) = true then [x + 1] else []) else [] := by
    unfold nx; rw [hi]
  rw [hnx]
  have r1 : ∀ a b : Int, roomOk (T.length + [a, b].length) 8 = true := fun a b => roomN (by omega) (by simp only [List.length_cons, List.length_nil]; omega)
  have r2 : ∀ a : Int, roomOk (T.length + [a].length) 8 = true := fun a => roomN (by omega) (by simp only [List.length_cons, List.length_nil]; omega)
  have hf : decide (x ∈ next.2) = false := decide_eq_false hm
  simp only [hf, Bool.not_false, Bool.not_true, cond_false, Option.bind_some, if_neg hm, hi]
  by_cases h2 : i.1 = 2
  · simp only [h2, decide_true, cond_true, r1, if_true, List.reverse_cons, List.reverse_nil, List.nil_append, List.cons_append]
  by_cases h3 : i.1 = 3
  · simp only [h3, show decide ((3 : Int) = 2) = false from rfl, decide_true, cond_true, cond_false, r2, if_true, if_neg (show ¬ (3 : Int) = 2 by decide), List.reverse_cons, List.reverse_nil, List.nil_append]
  by_cases h4 : i.1 = 4
  · have g5 : decide (i.1 = 5) = false := by rw [h4]; rfl
    have g4 : decide (i.1 = 4) = true := decide_eq_true h4
    have g3 : decide (i.1 = 3) = false := decide_eq_false h3
    have g2 : decide (i.1 = 2) = false := decide_eq_false h2
    simp only [g2, g3, g4, if_neg h2, if_neg h3, if_pos h4, cond_true, cond_false]
    cases beg with
    | true =>
      cases hz : decide (pl = 0) with
      | true => simp only [d1, hz, cond_true, Option.bind_some, r2, hw, Bool.true_and, if_true, List.reverse_cons, List.reverse_nil, List.nil_append]
      | false => simp only [d1, hz, cond_true, cond_false, Option.bind_some, Bool.true_and, Bool.false_eq_true, if_false, List.reverse_nil, List.append_nil, g5]
    | false => simp only [cond_false, Option.bind_some, Bool.false_and, Bool.false_eq_true, if_false, List.reverse_nil, List.append_nil, g5]
  by_cases h5 : i.1 = 5
  · have g5 : decide (i.1 = 5) = true := decide_eq_true h5
    have g4 : decide (i.1 = 4) = false := decide_eq_false h4
    have g3 : decide (i.1 = 3) = false := decide_eq_false h3
    have g2 : decide (i.1 = 2) = false := decide_eq_false h2
    simp only [g2, g3, g4, g5, if_neg h2, if_neg h3, if_neg h4, if_pos h5, cond_false, cond_true, Option.bind_some]
    cases fin with
    | true =>
      cases hz : decide (pl = win.length) with
      | true => simp only [d2, hz, cond_true, Option.bind_some, r2, hw, Bool.true_and, if_true, List.reverse_cons, List.reverse_nil, List.nil_append]
      | false => simp only [d2, hz, cond_true, cond_false, Option.bind_some, Bool.true_and, Bool.false_eq_true, if_false, List.reverse_nil, List.append_nil]
    | false => simp only [cond_false, Option.bind_some, Bool.false_and, Bool.false_eq_true, if_false, List.reverse_nil, List.append_nil]
  simp only [h2, h3, h4, h5, decide_false, cond_false, Option.bind_some, if_false, List.reverse_nil, List.append_nil]
theorem nx_len (p : List In) (b e : Bool) (v : Int) : (nx p b e v).length ≤ 2 := by
  unfold nx
  split
  · simp
  · split
    · simp
    · split
      · simp
      · split
        · split <;> simp
        · split
          · split <;> simp
          · simp
theorem reach_loop (p : List In) (win : Ws) (beg fin : Bool) (now : SpT) (st : Int) (pl : Nat) (hp : GP p) (S : Int → Prop) (hS : ∀ v, S v → inN p v) :
    ∀ (k : Nat) (next : SpT) (todo : List Int) (n : Nat), Sp p.length next → Closed p (beg && decide (pl = 0)) (fin && decide (pl = win.length)) next todo → (∀ v ∈ next.2, Cl p (beg && decide (pl = 0)) (fin && decide (pl = win.length)) S v) →
      (∀ v ∈ todo, Cl p (beg && decide (pl = 0)) (fin && decide (pl = win.length)) S v) → (∀ v, S v → v ∈ next.2 ∨ v ∈ todo) → todo.length + 3 * (p.length - next.2.length) ≤ k → k ≤ 50000 → k < n →
      ∃ s, iterN (fun x => pReach_s2 x.1 x.2.1) n (mc p win beg fin now next todo st, ((pl : Int), ())) = some (mc p win beg fin now s [] st, ()) ∧ Sp p.length s ∧ ∀ v, v ∈ s.2 ↔ Cl p (beg && decide (pl = 0)) (fin && decide (pl = win.length)) S v := by
  intro k
  have base : ∀ (next : SpT) (n : Nat), Sp p.length next → Closed p (beg && decide (pl = 0)) (fin && decide (pl = win.length)) next [] → (∀ v ∈ next.2, Cl p (beg && decide (pl = 0)) (fin && decide (pl = win.length)) S v) → (∀ v, S v → v ∈ next.2 ∨ v ∈ ([] : List Int)) →
      ∃ s, iterN (fun x => pReach_s2 x.1 x.2.1) (n + 1) (mc p win beg fin now next [] st, ((pl : Int), ())) = some (mc p win beg fin now s [] st, ()) ∧ Sp p.length s ∧ ∀ v, v ∈ s.2 ↔ Cl p (beg && decide (pl = 0)) (fin && decide (pl = win.length)) S v := by
    intro next n hn hc hsub hb
    refine ⟨next, iterN_inr (by simp [mc, pReach_s2]), hn, fun v => ⟨hsub v, fun hv => hv.least (T := fun v => v ∈ next.2) (fun w hw => (hb w hw).resolve_right (by simp)) fun w hw u hu => (hc w hw u hu).resolve_right (by simp)⟩⟩
  induction k with
  | zero =>
    intro next todo n hn hc hsub htd hb hk hk2 hnn
    obtain ⟨n, rfl⟩ := succ_of hnn
    have : todo = [] := List.length_eq_zero_iff.1 (by omega)
    subst this
    exact base next n hn hc hsub hb
  | succ k ih =>
    intro next todo n hn hc hsub htd hb hk hk2 hnn
    obtain ⟨n, rfl⟩ := succ_of (Nat.lt_of_le_of_lt (Nat.zero_le _) hnn)
    rcases List.eq_nil_or_concat todo with rfl | ⟨T, x, rfl⟩
    · exact base next n hn hc hsub hb
    · rw [List.concat_eq_append] at hc htd hb hk ⊢
      simp only [List.length_append, List.length_cons, List.length_nil] at hk
      have hxc := htd x (by simp)
      have hx : inN p x := hxc.inN hp hS
      have hst := reach_step p win beg fin now next T x st pl hp hn hx (by omega)
      by_cases hm : x ∈ next.2
      · rw [if_pos hm] at hst
        have hsame : addS next x = next := by unfold addS; rw [if_pos hm]
        rw [hsame] at hst
        obtain ⟨s, h5, h6, h7⟩ := ih next T n hn (fun v hv u hu => (hc v hv u hu).elim .inl fun h => by
          rcases List.mem_append.1 h with h | h
          · exact .inr h
          · simp only [List.mem_singleton] at h; subst h; exact .inl hm) hsub (fun v hv => htd v (by simp [hv])) (fun v hv => (hb v hv).elim .inl fun h => by
          rcases List.mem_append.1 h with h | h
          · exact .inr h
          · simp only [List.mem_singleton] at h; subst h; exact .inl hm) (by omega) (by omega) (by omega)
        exact ⟨s, (iterN_inl hst).trans h5, h6, h7⟩
      · rw [if_neg hm] at hst
        have hadd := hn.add hx.1 hx.2
        have hl : (addS next x).2.length = next.2.length + 1 := by unfold addS; rw [if_neg hm]; simp
        have hsz := hadd.size
        have hnl := nx_len p (beg && decide (pl = 0)) (fin && decide (pl = win.length)) x
        obtain ⟨s, h5, h6, h7⟩ := ih (addS next x) (T ++ (nx p (beg && decide (pl = 0)) (fin && decide (pl = win.length)) x).reverse) n hadd (fun v hv u hu => by
          rcases (addS_mem next x v).1 hv with hv | rfl
          · rcases hc v hv u hu with h | h
            · exact .inl ((addS_mem _ _ _).2 (.inl h))
            · rcases List.mem_append.1 h with h | h
              · exact .inr (by simp [h])
              · simp only [List.mem_singleton] at h; exact .inl ((addS_mem _ _ _).2 (.inr h))
          · exact .inr (by simp [hu])) (fun v hv => by
          rcases (addS_mem next x v).1 hv with hv | rfl
          · exact hsub v hv
          · exact hxc) (fun v hv => by
          rcases List.mem_append.1 hv with hv | hv
          · exact htd v (by simp [hv])
          · exact .step hxc (by simpa using hv)) (fun v hv => by
          rcases hb v hv with h | h
          · exact .inl ((addS_mem _ _ _).2 (.inl h))
          · rcases List.mem_append.1 h with h | h
            · exact .inr (by simp [h])
            · simp only [List.mem_singleton] at h; exact .inl ((addS_mem _ _ _).2 (.inr h))) (by simp only [List.length_append, List.length_reverse]; omega) (by omega) (by omega)
        exact ⟨s, (iterN_inl hst).trans h5, h6, h7⟩
end Go.Vt.Pk
