/- The longest match, as the program finds it: the run. -/
import Derived.Test.YtfmhkcidechgdaaGreatVtPp4
set_option linter.unusedVariables false
set_option maxRecDepth 100000
namespace Go.Vt.Pk
open Go Go.Vt Go.Vt.Rm Go.Sort Go.Vt.Srt
theorem pReach_is (p : List In) (win : Ws) (beg fin : Bool) (now next : SpT) (st : Int) (pl : Nat) (frm : Int) (hp : GP p) (hn : Sp p.length next) (hc : Closed p (beg && decide (pl = 0)) (fin && decide (pl = win.length)) next []) (hf : inN p frm) :
    ∃ s, pReach (mc p win beg fin now next [] st) frm (pl : Int) = some (mc p win beg fin now s [] st, ()) ∧ Sp p.length s ∧ (∀ v, v ∈ s.2 ↔ Cl p (beg && decide (pl = 0)) (fin && decide (pl = win.length)) (fun v => v ∈ next.2 ∨ v = frm) v) := by
  have hpl := hp.len
  have hS : ∀ v, (v ∈ next.2 ∨ v = frm) → inN p v := fun v hv => by
    rcases hv with hv | rfl
    · obtain ⟨i, hi⟩ := List.getElem?_of_mem hv
      obtain ⟨h1, h2, _⟩ := hn.at' i v hi
      exact ⟨h1, h2⟩
    · exact hf
  obtain ⟨s, h1, h2, h3⟩ := reach_loop p win beg fin now st pl hp (fun v => v ∈ next.2 ∨ v = frm) hS ([frm].length + 3 * (p.length - next.2.length)) next [frm] fuN hn (fun v hv u hu => (hc v hv u hu).imp id fun h => by cases h) (fun v hv => .base (.inl hv)) (fun v hv => .base (.inr (by simpa using hv))) (fun v hv => hv.imp id fun h => by simp [h]) (Nat.le_refl _) (by simp; omega) (by have := fuN_le; simp; omega)
  refine ⟨s, ?_, h2, h3⟩
  have hr : roomOk (([] : List Int).length + [frm].length) 8 = true := roomN (by omega) (by simp)
  have h1' : iterN (fun x => pReach_s2 x.1 x.2.1) fuN ((p, (win, (beg, (fin, (now, (next, (([] : List Int) ++ [frm], st))))))), (((pl : Nat) : Int), ())) = some (mc p win beg fin now s [] st, ()) := h1
  simp only [pReach, mc, hr, cond_true]
  rw [h1']
  rfl
theorem pTurn_is (p : List In) (win : Ws) (beg fin : Bool) (now next : SpT) (st : Int) : pTurn (mc p win beg fin now next [] st) = some (mc p win beg fin next (now.1, []) [] (IntKind.i64.wrap (st + (next.2.length : Int))), ()) := by
  simp only [pTurn, mc, spClear_is, spLen_is, Option.bind_some]
def hasOp (p : List In) (ops : List Int) (v : Int) : Bool := match lk p v with
  | some i => ops.any fun o => decide (i.1 = o)
  | none => false
theorem has_inner (p : List In) (q : Ws × (Bool × (Bool × (Option SpT × (Option SpT × (List Int × Int)))))) (ops vals : List Int) (L j v : Int) (i : In) (hi : lk p v = some i) (hops : ops.length ≤ 10) : ∀ (rest pre : List Int) (n : Nat), ops = pre ++ rest → rest.length < n →
    iterN (fun x => pHas_s8 x.1 x.2.1 x.2.2.1 x.2.2.2.1 x.2.2.2.2.1 x.2.2.2.2.2.1 x.2.2.2.2.2.2.1 x.2.2.2.2.2.2.2.1 x.2.2.2.2.2.2.2.2.1) n (some (p, q), (ops, (v, (vals, (L, (j, (ops, ((ops.length : Int), (((pre.length : Nat) : Int), ()))))))))) =
      some (if (rest.any fun o => decide (i.1 = o)) = true then .inl (true, ()) else .inr (some (p, q), (ops, (vals, (L, (j, ())))))) := by
  intro rest
  induction rest with
  | nil =>
    intro pre n hp hn
    obtain ⟨n, rfl⟩ := succ_of hn
    subst hp
    refine iterN_inr ?_
    simp [pHas_s8]
  | cons o rest ih =>
    intro pre n hp hn
    simp only [List.length_cons] at hn
    obtain ⟨n, rfl⟩ := succ_of hn
    have hlt : ((pre.length : Nat) : Int) < (ops.length : Int) := by rw [hp]; exact lt_mid
    have hk : lk ops ((pre.length : Nat) : Int) = some o := by rw [hp]; exact lk_mid
    have hpl : pre.length ≤ ops.length := by rw [hp]; simp
    have ew : IntKind.i64.wrap (((pre.length : Nat) : Int) + 1) = (((pre ++ [o]).length : Nat) : Int) := w_mid (by omega)
    have b0 : ∀ z k : Int, (z == k) = decide (z = k) := fun z k => by rw [Bool.eq_iff_iff]; simp
    cases hc : decide (i.1 = o) with
    | true =>
      rw [show ((o :: rest).any fun o => decide (i.1 = o)) = true by simp only [List.any_cons, hc, Bool.true_or], if_pos rfl]
      refine iterN_inr ?_
      simp only [pHas_s8, hlt, decide_true, cond_true, hk, Option.bind_some, hi, b0, hc]
    | false =>
      rw [show ((o :: rest).any fun o => decide (i.1 = o)) = (rest.any fun o => decide (i.1 = o)) by simp only [List.any_cons, hc, Bool.false_or]]
      refine (iterN_inl ?_).trans (ih (pre ++ [o]) n (by rw [hp]; simp) (by omega))
      simp only [pHas_s8, hlt, decide_true, cond_true, cond_false, hk, Option.bind_some, hi, b0, hc, ew]
theorem has_outer (p : List In) (q : Ws × (Bool × (Bool × (Option SpT × (Option SpT × (List Int × Int)))))) (ops vals : List Int) (hv : ∀ v ∈ vals, inN p v) (hops : ops.length ≤ 10) (hvl : vals.length ≤ 4096) : ∀ (rest pre : List Int) (n : Nat), vals = pre ++ rest → rest.length < n →
    iterN (fun x => pHas_s4 x.1 x.2.1 x.2.2.1 x.2.2.2.1 x.2.2.2.2.1) n (some (p, q), (ops, (vals, ((vals.length : Int), (((pre.length : Nat) : Int), ()))))) =
      some (if rest.any (hasOp p ops) = true then .inl (true, ()) else .inr ()) := by
  intro rest
  induction rest with
  | nil =>
    intro pre n hp hn
    obtain ⟨n, rfl⟩ := succ_of hn
    subst hp
    refine iterN_inr ?_
    simp [pHas_s4]
  | cons v rest ih =>
    intro pre n hp hn
    simp only [List.length_cons] at hn
    obtain ⟨n, rfl⟩ := succ_of hn
    have hlt : ((pre.length : Nat) : Int) < (vals.length : Int) := by rw [hp]; exact lt_mid
    have hk : lk vals ((pre.length : Nat) : Int) = some v := by rw [hp]; exact lk_mid
    have hpl : pre.length ≤ vals.length := by rw [hp]; simp
    have ew : IntKind.i64.wrap (((pre.length : Nat) : Int) + 1) = (((pre ++ [v]).length : Nat) : Int) := w_mid (by omega)
    obtain ⟨i, hi⟩ := lk_in (l := p) (hv v (by rw [hp]; simp)).1 (hv v (by rw [hp]; simp)).2
    have hin := has_inner p q ops vals (vals.length : Int) ((pre.length : Nat) : Int) v i hi hops ops [] fuN rfl (by have := fuN_le; omega)
    have hin' : iterN (fun x => pHas_s8 x.1 x.2.1 x.2.2.1 x.2.2.2.1 x.2.2.2.2.1 x.2.2.2.2.2.1 x.2.2.2.2.2.2.1 x.2.2.2.2.2.2.2.1 x.2.2.2.2.2.2.2.2.1) fuN (some (p, q), (ops, (v, (vals, ((vals.length : Int), (((pre.length : Nat) : Int), (ops, ((ops.length : Int), ((0 : Int), ()))))))))) = some (if (ops.any fun o => decide (i.1 = o)) = true then .inl (true, ()) else .inr (some (p, q), (ops, (vals, ((vals.length : Int), (((pre.length : Nat) : Int), ())))))) := hin
    have hho : hasOp p ops v = (ops.any fun o => decide (i.1 = o)) := by unfold hasOp; rw [hi]
    cases hc : (ops.any fun o => decide (i.1 = o)) with
    | true =>
      rw [hc, if_pos rfl] at hin'
      rw [show (v :: rest).any (hasOp p ops) = true by simp only [List.any_cons, hho, hc, Bool.true_or], if_pos rfl]
      refine iterN_inr ?_
      simp only [pHas_s4, hlt, decide_true, cond_true, hk, Option.bind_some, hin']
    | false =>
      rw [hc, if_neg (by simp)] at hin'
      rw [show (v :: rest).any (hasOp p ops) = rest.any (hasOp p ops) by simp only [List.any_cons, hho, hc, Bool.false_or]]
      refine (iterN_inl ?_).trans (ih (pre ++ [v]) n (by rw [hp]; simp) (by omega))
      simp only [pHas_s4, hlt, decide_true, cond_true, hk, Option.bind_some, hin', ew]
theorem Sp.rng {p : List In} {s : SpT} (h : Sp p.length s) : ∀ v ∈ s.2, inN p v := fun v hv => by
  obtain ⟨i, hi⟩ := List.getElem?_of_mem hv
  obtain ⟨h1, h2, _⟩ := h.at' i v hi
  exact ⟨h1, h2⟩
theorem pHas_is (p : List In) (win : Ws) (beg fin : Bool) (now next : SpT) (td : List Int) (st : Int) (ops : List Int) (hp : GP p) (hn : Sp p.length now) (hops : ops.length ≤ 10) :
    pHas (some (p, (win, (beg, (fin, (some now, (some next, (td, st)))))))) ops = some ((), (now.2.any (hasOp p ops), ())) := by
  have hsz := hn.size
  have hpl := hp.len
  have h1 := has_outer p (win, (beg, (fin, (some now, (some next, (td, st)))))) ops now.2 hn.rng hops (by omega) now.2 [] fuN rfl (by have := fuN_le; omega)
  have h1' : iterN (fun x => pHas_s4 x.1 x.2.1 x.2.2.1 x.2.2.2.1 x.2.2.2.2.1) fuN (some (p, (win, (beg, (fin, (some now, (some next, (td, st))))))), (ops, (now.2, ((now.2.length : Int), ((0 : Int), ()))))) = some (if now.2.any (hasOp p ops) = true then .inl (true, ()) else .inr ()) := h1
  simp only [pHas, Option.bind_some, spVals_is now (by omega), h1']
  cases now.2.any (hasOp p ops) <;> rfl
theorem has_any {p : List In} {s : SpT} {r : List Bool} (h : Lk s r) (hr : r.length = p.length) (a b : Int) : s.2.any (hasOp p [a, b]) = anyR p r a b := by
  rw [Bool.eq_iff_iff, anyR_iff, List.any_eq_true]
  constructor
  · rintro ⟨v, hv, ho⟩
    obtain ⟨h0, h1⟩ := Mk.iff_nat.1 ((h v).1 hv)
    unfold hasOp at ho
    cases hi : lk p v with
    | none => rw [hi] at ho; cases ho
    | some i =>
      rw [hi] at ho
      obtain ⟨_, _, hp⟩ := lk_some' hi
      exact ⟨v.toNat, i, hp, h1, by simpa using ho⟩
  · rintro ⟨k, i, h1, h2, h3⟩
    refine ⟨(k : Int), (h _).2 (Mk.iff_nat.2 ⟨by omega, by simpa using h2⟩), ?_⟩
    unfold hasOp
    rw [lk_nat, h1]
    simpa using h3
theorem has_one (p : List In) (s : SpT) (a : Int) : s.2.any (hasOp p [a]) = s.2.any (hasOp p [a, a]) := by
  congr 1
  funext v
  unfold hasOp
  split <;> simp
def SeedS (p : List In) (t : Tx) (l : List Int) (v : Int) : Prop := ∃ k ∈ l, (∃ i, lk p k = some i ∧ i.1 = 1 ∧ hasS i.2.1 t = true) ∧ v = k + 1
theorem Cl.mono {p : List In} {b e : Bool} {S T : Int → Prop} (h : ∀ v, S v → T v) {v : Int} (hv : Cl p b e S v) : Cl p b e T v := hv.least (fun w hw => .base (h w hw)) fun w hw u hu => .step hw hu
theorem Cl.idem {p : List In} {b e : Bool} {S T : Int → Prop} (h : ∀ v, S v → Cl p b e T v) {v : Int} (hv : Cl p b e S v) : Cl p b e T v := hv.least h fun w hw u hu => .step hw hu
theorem val_loop (p : List In) (win : Ws) (beg fin : Bool) (now : SpT) (st : Int) (place : Nat) (t : Tx) (e : Int) (f : Bool) (hg : Gd p win) (hnow : Sp p.length now) (ht : win[place]? = some t) : ∀ (rest pre : List Int) (next : SpT) (n : Nat), now.2 = pre ++ rest → Sp p.length next →
    (∀ v, v ∈ next.2 ↔ Cl p (beg && decide (place + 1 = 0)) (fin && decide (place + 1 = win.length)) (SeedS p t pre) v) → rest.length < n →
    ∃ s, iterN (fun x => pLong_s19 x.1 x.2.1 x.2.2.1 x.2.2.2.1 x.2.2.2.2.1 x.2.2.2.2.2.1 x.2.2.2.2.2.2.1) n (mc p win beg fin now next [] st, (e, (f, (((place : Nat) : Int), (now.2, ((now.2.length : Int), (((pre.length : Nat) : Int), ()))))))) = some (mc p win beg fin now s [] st, (e, (f, (((place : Nat) : Int), ())))) ∧
      Sp p.length s ∧ (∀ v, v ∈ s.2 ↔ Cl p (beg && decide (place + 1 = 0)) (fin && decide (place + 1 = win.length)) (SeedS p t now.2) v) := by
  have hpl := hg.gp.len
  have hsz := hnow.size
  have hlt2 : place < win.length := (List.getElem?_eq_some_iff.1 ht).1
  have hwl := hg.len
  intro rest
  induction rest with
  | nil =>
    intro pre next n hp hn hm hnn
    obtain ⟨n, rfl⟩ := succ_of hnn
    have hp' : now.2 = pre := by simpa using hp
    refine ⟨next, iterN_inr ?_, hn, by rw [hp']; exact hm⟩
    have : ¬ (((pre.length : Nat) : Int) < (now.2.length : Int)) := by rw [hp']; omega
    simp only [pLong_s19, this, decide_false, cond_false]
  | cons v rest ih =>
    intro pre next n hp hn hm hnn
    simp only [List.length_cons] at hnn
    obtain ⟨n, rfl⟩ := succ_of hnn
    have hlt : ((pre.length : Nat) : Int) < (now.2.length : Int) := by rw [hp]; exact lt_mid
    have hk : lk now.2 ((pre.length : Nat) : Int) = some v := by rw [hp]; exact lk_mid
    have hpl2 : pre.length ≤ now.2.length := by rw [hp]; simp
    have ew : IntKind.i64.wrap (((pre.length : Nat) : Int) + 1) = (((pre ++ [v]).length : Nat) : Int) := w_mid (by omega)
    have hvr := hnow.rng v (by rw [hp]; simp)
    obtain ⟨i, hi⟩ := lk_in (l := p) hvr.1 hvr.2
    have hw : lk win ((place : Nat) : Int) = some t := by rw [lk_nat]; exact ht
    have b0 : ∀ z k : Int, (z == k) = decide (z = k) := fun z k => by rw [Bool.eq_iff_iff]; simp
    obtain ⟨a1, a2, a3, a4⟩ := hg.sets i (List.mem_of_getElem? (lk_some' hi).2.2)
    have hh := sHas_is i.2.1 t a1 a2 (by omega) (hg.txt t (List.mem_of_getElem? ht))
    have hw1 : IntKind.i64.wrap (v + 1) = v + 1 := by have := hvr.1; have := hvr.2; rw [wrap64] <;> omega
    have hw2 : IntKind.i64.wrap (((place : Nat) : Int) + 1) = ((place + 1 : Nat) : Int) := by rw [wrap64] <;> omega
    have skip : (¬ (i.1 = 1 ∧ hasS i.2.1 t = true)) → ∀ w, (w ∈ next.2 ↔ Cl p (beg && decide (place + 1 = 0)) (fin && decide (place + 1 = win.length)) (SeedS p t (pre ++ [v])) w) := fun hno w => by
      rw [hm]
      have key : ∀ w, SeedS p t (pre ++ [v]) w ↔ SeedS p t pre w := fun w => by
        constructor
        · rintro ⟨k, hk, ⟨j, h1, h2, h3⟩, h4⟩
          rcases List.mem_append.1 hk with hk | hk
          · exact ⟨k, hk, ⟨j, h1, h2, h3⟩, h4⟩
          · simp only [List.mem_singleton] at hk
            subst hk
            rw [hi] at h1; cases h1
            exact absurd ⟨h2, h3⟩ hno
        · rintro ⟨k, hk, h⟩
          exact ⟨k, by simp [hk], h⟩
      exact ⟨Cl.mono fun w hw => (key w).2 hw, Cl.mono fun w hw => (key w).1 hw⟩
    by_cases h1 : i.1 = 1
    · have g1 : decide (i.1 = 1) = true := decide_eq_true h1
      cases hs : hasS i.2.1 t with
      | false =>
        obtain ⟨s, q1, q2, q3⟩ := ih (pre ++ [v]) next n (by rw [hp]; simp) hn (skip (by rw [hs]; simp)) (by omega)
        refine ⟨s, (iterN_inl ?_).trans q1, q2, q3⟩
        simp only [mc, pLong_s19, hlt, decide_true, cond_true, cond_false, hk, Option.bind_some, hi, b0, g1, hw, hh, hs, ew]
      | true =>
        have hone := hg.gp.one v i hi h1
        have hfr : inN p (v + 1) := ⟨by have := hvr.1; omega, hone⟩
        have hclo : Closed p (beg && decide (place + 1 = 0)) (fin && decide (place + 1 = win.length)) next [] := fun w hw u hu => .inl ((hm u).2 (.step ((hm w).1 hw) hu))
        obtain ⟨s0, r1, r2, r3⟩ := pReach_is p win beg fin now next st (place + 1) (v + 1) hg.gp hn hclo hfr
        obtain ⟨s, q1, q2, q3⟩ := ih (pre ++ [v]) s0 n (by rw [hp]; simp) r2 (fun w => by
          rw [r3]
          constructor
          · refine Cl.idem fun w hw => ?_
            rcases hw with hw | rfl
            · exact Cl.mono (fun w ⟨k, hk, h⟩ => ⟨k, by simp [hk], h⟩) ((hm w).1 hw)
            · exact .base ⟨v, by simp, ⟨i, hi, h1, hs⟩, rfl⟩
          · refine Cl.idem fun w hw => ?_
            obtain ⟨k, hk, h, h4⟩ := hw
            rcases List.mem_append.1 hk with hk | hk
            · exact .base (.inl ((hm w).2 (.base ⟨k, hk, h, h4⟩)))
            · simp only [List.mem_singleton] at hk
              subst hk
              exact .base (.inr h4)) (by omega)
        refine ⟨s, (iterN_inl ?_).trans q1, q2, q3⟩
        have r1' : pReach (p, (win, (beg, (fin, (now, (next, (([] : List Int), st))))))) (v + 1) ((place + 1 : Nat) : Int) = some (mc p win beg fin now s0 [] st, ()) := r1
        simp only [mc, pLong_s19, hlt, decide_true, cond_true, hk, Option.bind_some, hi, b0, g1, hw, hh, hs, ew, hw1, hw2, r1']
    · have g1 : decide (i.1 = 1) = false := decide_eq_false h1
      obtain ⟨s, q1, q2, q3⟩ := ih (pre ++ [v]) next n (by rw [hp]; simp) hn (skip fun h => h1 h.1) (by omega)
      refine ⟨s, (iterN_inl ?_).trans q1, q2, q3⟩
      simp only [mc, pLong_s19, hlt, decide_true, cond_true, cond_false, hk, Option.bind_some, hi, b0, g1, ew]
theorem seed_mk (p : List In) (r : List Bool) (t : Tx) (s : SpT) (h : Lk s r) (hr : r.length = p.length) (hp : GP p) (v : Int) : SeedS p t s.2 v ↔ Mk (seedM p r t) v := by
  rw [Mk.iff_nat]
  unfold seedM seedTo
  constructor
  · rintro ⟨k, hk, ⟨i, h1, h2, h3⟩, rfl⟩
    obtain ⟨m0, m1⟩ := Mk.iff_nat.1 ((h k).1 hk)
    have hlt := hp.one k i h1 h2
    obtain ⟨_, g1, g2⟩ := lk_some' h1
    refine ⟨by omega, ?_⟩
    have e1 : (k + 1).toNat = k.toNat + 1 := by omega
    have e2 : k.toNat + 1 < p.length := by omega
    rw [e1, List.getElem?_map, List.getElem?_range e2]
    simp only [Option.map_some, Nat.add_sub_cancel]
    have e3 : seedF p r t k.toNat = true := by simp [seedF, g2, m1, h2, h3]
    rw [e3]
    simp; omega
  · rintro ⟨h0, h1⟩
    rw [List.getElem?_map] at h1
    cases hj : (List.range p.length)[v.toNat]? with
    | none => rw [hj] at h1; cases h1
    | some j =>
      rw [hj] at h1
      obtain ⟨hlt, ej⟩ := List.getElem?_eq_some_iff.1 hj
      have ej : j = v.toNat := by simpa using ej.symm
      simp only [Option.map_some, Option.some.injEq, Bool.and_eq_true, decide_eq_true_eq] at h1
      obtain ⟨h2, h3, h4⟩ := h1
      unfold seedF at h4
      cases hpk : p[j - 1]? with
      | none => rw [hpk] at h4; cases h4
      | some i =>
        cases hrk : r[j - 1]? with
        | none => rw [hpk, hrk] at h4; cases h4
        | some c =>
          rw [hpk, hrk] at h4
          cases c with
          | false => cases h4
          | true =>
            simp only [Bool.and_eq_true, decide_eq_true_eq] at h4
            refine ⟨((j - 1 : Nat) : Int), (h _).2 (Mk.iff_nat.2 ⟨by omega, by simpa using hrk⟩), ⟨i, by rw [lk_nat]; exact hpk, h4.1, h4.2⟩, by omega⟩
theorem plong_loop (p : List In) (win : Ws) (beg fin : Bool) (hg : Gd p win) : ∀ (rest : Ws) (place : Nat) (r : List Bool) (now next : SpT) (e : Int) (f : Bool) (st n : Nat), win.drop place = rest → place ≤ win.length → r.length = p.length → Lk now r → Sp p.length now → Sp p.length next → next.2 = [] → st + 5000 * (rest.length + 1) ≤ 4000000000000000000 → rest.length < n →
    ∃ now' next' e' f' o, ∃ st' : Nat, iterN (fun x => pLong_s6 x.1 x.2.1 x.2.2.1 x.2.2.2.1) n (mc p win beg fin now next [] (st : Int), (e, (f, (((place : Nat) : Int), ())))) = some (mc p win beg fin now' next' [] (st' : Int), (e', (f', (o, ())))) ∧
      Sp p.length now' ∧ Sp p.length next' ∧ runP p fin rest (place : Int) r e f (st : Int) = (e', f', o, (st' : Int)) ∧ st' ≤ st + 5000 * rest.length := by
  have hpl := hg.gp.len
  have hwl := hg.len
  intro rest
  induction rest with
  | nil =>
    intro place r now next e f st n hd hpl' hr hlk hnow hnext hne hst hn
    obtain ⟨n, rfl⟩ := succ_of hn
    have hpe : place = win.length := by
      have := congrArg List.length hd; simp at this; omega
    have b1 : (((place : Nat) : Int) == (win.length : Int)) = true := by rw [hpe]; simp
    have q6 := pHas_is p win beg fin now next [] (st : Int) [6] hg.gp hnow (by simp)
    rw [has_one, has_any hlk hr] at q6
    have q15 := pHas_is p win beg fin now next [] (st : Int) [1, 5] hg.gp hnow (by simp)
    rw [has_any hlk hr] at q15
    refine ⟨now, next, if anyR p r 6 6 = true then (place : Int) else e, (f || anyR p r 6 6), (!fin && anyR p r 1 5), st, iterN_inr ?_, hnow, hnext, rfl, by omega⟩
    cases hc : anyR p r 6 6 with
    | true =>
      rw [hc] at q6
      cases fin with
      | true => simp only [mc, pLong_s6, q6, cond_true, Option.bind_some, b1, Bool.not_true, cond_false, Bool.or_true, if_true, Bool.false_and]
      | false => simp only [mc, pLong_s6, q6, cond_true, Option.bind_some, b1, Bool.not_false, q15, Bool.or_true, if_true, Bool.true_and]
    | false =>
      rw [hc] at q6
      cases fin with
      | true => simp only [mc, pLong_s6, q6, cond_true, cond_false, Option.bind_some, b1, Bool.not_true, Bool.or_false, Bool.false_eq_true, if_false, Bool.false_and]
      | false => simp only [mc, pLong_s6, q6, cond_true, cond_false, Option.bind_some, b1, Bool.not_false, q15, Bool.or_false, Bool.false_eq_true, if_false, Bool.true_and]
  | cons t rest ih =>
    intro place r now next e f st n hd hpl' hr hlk hnow hnext hne hst hn
    simp only [List.length_cons] at hn hst
    obtain ⟨n, rfl⟩ := succ_of hn
    have ht : win[place]? = some t := by
      have := congrArg (fun l => l[0]?) hd; simpa using this
    have hlt : place < win.length := (List.getElem?_eq_some_iff.1 ht).1
    have hd2 : win.drop (place + 1) = rest := by
      rw [← List.drop_drop, hd]; rfl
    have hemp : decide (place + 1 = win.length) = rest.isEmpty := by
      rw [← hd2, Bool.eq_iff_iff]; simp; omega
    have b1 : (((place : Nat) : Int) == (win.length : Int)) = false := by simp; omega
    have q6 := pHas_is p win beg fin now next [] (st : Int) [6] hg.gp hnow (by simp)
    rw [has_one, has_any hlk hr] at q6
    have hcnt := hlk.count hnow
    have hsz := hnow.size
    by_cases hz : r.count true = 0
    · have hb : ((now.2.length : Int) == 0) = true := by rw [hcnt, hz]; rfl
      have hany := any_none (p := p) hz
      refine ⟨now, next, e, f, false, st, iterN_inr ?_, hnow, hnext, ?_, by omega⟩
      · rw [hany 6 6] at q6
        simp only [mc, pLong_s6, q6, cond_false, Option.bind_some, b1, spLen_is, hb, cond_true]
      · simp only [runP, hz, if_true, hany, Bool.or_false, Bool.false_eq_true, if_false]
    · have hb : ((now.2.length : Int) == 0) = false := by rw [hcnt]; simp; omega
      have ew : IntKind.i64.wrap (((place : Nat) : Int) + 1) = (((place + 1 : Nat)) : Int) := by rw [wrap64] <;> omega
      have hf0 : decide (place + 1 = 0) = false := by simp
      obtain ⟨s, v1, v2, v3⟩ := val_loop p win beg fin now (st : Int) place t (if anyR p r 6 6 = true then (place : Int) else e) (f || anyR p r 6 6) hg hnow ht now.2 [] next fuN rfl hnext (fun v => by
        rw [hne]
        constructor
        · intro h; cases h
        · intro h
          have : ∀ v, ¬ Cl p (beg && decide (place + 1 = 0)) (fin && decide (place + 1 = win.length)) (SeedS p t []) v := fun v hv => by
            induction hv with
            | base h => obtain ⟨k, hk, _⟩ := h; cases hk
            | step _ _ ih => exact ih
          exact absurd h (this v)) (by have := fuN_le; omega)
      have hcl := clM_length p false (fin && rest.isEmpty) (seedM p r t)
      have hlk2 : Lk s (clM p false (fin && rest.isEmpty) (seedM p r t)) := fun v => by
        rw [v3, clM_mk p _ _ _ hg.gp (seedM_length p r t), hf0, Bool.and_false, hemp]
        exact ⟨Cl.mono fun w hw => (seed_mk p r t now hlk hr hg.gp w).1 hw, Cl.mono fun w hw => (seed_mk p r t now hlk hr hg.gp w).2 hw⟩
      have hc2 := hlk2.count v2
      have hs2 := v2.size
      have es : IntKind.i64.wrap (((st : Nat) : Int) + (s.2.length : Int)) = ((st + (clM p false (fin && rest.isEmpty) (seedM p r t)).count true : Nat) : Int) := by
        rw [wrap64] <;> omega
      obtain ⟨now', next', e', f', o, st', i1, i2, i3, i4, i5⟩ := ih (place + 1) (clM p false (fin && rest.isEmpty) (seedM p r t)) s (now.1, []) (if anyR p r 6 6 = true then (place : Int) else e) (f || anyR p r 6 6) (st + (clM p false (fin && rest.isEmpty) (seedM p r t)).count true) n hd2 (by omega) hcl hlk2 v2 hnow.clear rfl (by omega) (by omega)
      refine ⟨now', next', e', f', o, st', (iterN_inl ?_).trans i1, i2, i3, ?_, by simp only [List.length_cons]; omega⟩
      · have v1' : iterN (fun x => pLong_s19 x.1 x.2.1 x.2.2.1 x.2.2.2.1 x.2.2.2.2.1 x.2.2.2.2.2.1 x.2.2.2.2.2.2.1) fuN ((p, (win, (beg, (fin, (now, (next, (([] : List Int), (st : Int)))))))), ((if anyR p r 6 6 = true then (place : Int) else e), ((f || anyR p r 6 6), (((place : Nat) : Int), (now.2, ((now.2.length : Int), ((0 : Int), ()))))))) = some (mc p win beg fin now s [] (st : Int), ((if anyR p r 6 6 = true then (place : Int) else e), ((f || anyR p r 6 6), (((place : Nat) : Int), ())))) := v1
        have hturn := pTurn_is p win beg fin now s (st : Int)
        rw [es] at hturn
        cases hc : anyR p r 6 6 with
        | true =>
          rw [hc] at q6
          simp only [hc, if_true, Bool.or_true] at v1'
          simp only [mc, pLong_s6, q6, cond_true, cond_false, Option.bind_some, b1, spLen_is, hb, spVals_is now (show now.2.length ≤ 4096 by omega), v1', if_true, Bool.or_true]
          rw [show pTurn (p, (win, (beg, (fin, (now, (s, (([] : List Int), (st : Int)))))))) = _ from hturn]
          simp only [mc, Option.bind_some, ew]
        | false =>
          rw [hc] at q6
          simp only [hc, Bool.false_eq_true, if_false, Bool.or_false] at v1'
          simp only [mc, pLong_s6, q6, cond_false, Option.bind_some, b1, spLen_is, hb, spVals_is now (show now.2.length ≤ 4096 by omega), v1', Bool.false_eq_true, if_false, Bool.or_false]
          rw [show pTurn (p, (win, (beg, (fin, (now, (s, (([] : List Int), (st : Int)))))))) = _ from hturn]
          simp only [mc, Option.bind_some, ew]
      · rw [← i4, show ((place + 1 : Nat) : Int) = (place : Int) + 1 from rfl, show ((st + (clM p false (fin && rest.isEmpty) (seedM p r t)).count true : Nat) : Int) = (st : Int) + ((clM p false (fin && rest.isEmpty) (seedM p r t)).count true : Int) from rfl]
        simp only [runP, if_neg hz]
theorem pLong_is (p : List In) (win : Ws) (beg fin : Bool) (now next : SpT) (st at' : Nat) (hg : Gd p win) (hnow : Sp p.length now) (hnext : Sp p.length next) (ha : at' ≤ win.length) (hst : st ≤ 3000000000000000000) :
    ∃ now' next' e' f' o, ∃ st' : Nat, pLong (mc p win beg fin now next [] (st : Int)) (at' : Int) = some (mc p win beg fin now' next' [] (st' : Int), (e', (f', (o, ())))) ∧ Sp p.length now' ∧ Sp p.length next' ∧
      runP p fin (win.drop at') (at' : Int) (first p win at' beg fin) 0 false (((st + (first p win at' beg fin).count true : Nat)) : Int) = (e', f', o, (st' : Int)) ∧ st' ≤ st + 5000 * (win.length + 1) := by
  have hpl := hg.gp.len; have hpos := hg.gp.pos; have hwl := hg.len
  obtain ⟨s, r1, r2, r3⟩ := pReach_is p win beg fin (now.1, []) (next.1, []) (st : Int) at' 0 hg.gp hnext.clear (fun v hv => by cases hv) ⟨by omega, by omega⟩
  have hfl : (first p win at' beg fin).length = p.length := clM_length _ _ _ _
  have hlk : Lk s (first p win at' beg fin) := fun v => by
    rw [r3]
    unfold first
    rw [clM_mk p _ _ _ hg.gp (start_length p)]
    have key : ∀ w : Int, (w ∈ ([] : List Int) ∨ w = 0) ↔ Mk (start p) w := fun w => by
      unfold start
      have := Mk.set (r := List.replicate p.length false) (u := 0) (by omega) (by simp; omega) w
      simp only [Int.toNat_zero] at this
      rw [this]
      have hno : ¬ Mk (List.replicate p.length false) w := fun h => by
        obtain ⟨_, h⟩ := Mk.iff_nat.1 h
        rw [List.getElem?_replicate] at h
        split at h <;> cases h
      simp [hno]
    exact ⟨Cl.mono fun w hw => (key w).1 hw, Cl.mono fun w hw => (key w).2 hw⟩
  have hc := hlk.count r2
  have hsz := r2.size
  have es : IntKind.i64.wrap (((st : Nat) : Int) + (s.2.length : Int)) = ((st + (first p win at' beg fin).count true : Nat) : Int) := by
    rw [wrap64] <;> omega
  have hturn := pTurn_is p win beg fin (now.1, []) s (st : Int)
  rw [es] at hturn
  obtain ⟨now', next', e', f', o, st', i1, i2, i3, i4, i5⟩ := plong_loop p win beg fin hg (win.drop at') at' (first p win at' beg fin) s (now.1, []) 0 false (st + (first p win at' beg fin).count true) fuN rfl ha hfl hlk r2 hnow.clear rfl (by simp; omega) (by have := fuN_le; simp; omega)
  refine ⟨now', next', e', f', o, st', ?_, i2, i3, i4, by simp at i5; omega⟩
  have r1' : pReach (p, (win, (beg, (fin, ((now.1, ([] : List Int)), ((next.1, ([] : List Int)), (([] : List Int), (st : Int)))))))) (0 : Int) (at' : Int) = some (mc p win beg fin (now.1, []) s [] (st : Int), ()) := r1
  simp only [mc, pLong, spClear_is, Option.bind_some, r1']
  rw [show pTurn (p, (win, (beg, (fin, ((now.1, ([] : List Int)), (s, (([] : List Int), (st : Int)))))))) = _ from hturn]
  simp only [Option.bind_some]
  rw [i1]
  simp only [mc, Option.bind_some]
end Go.Vt.Pk
