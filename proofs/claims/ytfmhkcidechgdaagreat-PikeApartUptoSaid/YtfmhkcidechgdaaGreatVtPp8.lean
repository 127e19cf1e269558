/- The laws, in values. -/
import Derived.Test.YtfmhkcidechgdaaGreatVtPp7
set_option linter.unusedVariables false
set_option maxRecDepth 100000
namespace Go.Vt.Pk
open Go Go.Vt Go.Vt.Rm Go.Sort Go.Vt.Srt
theorem nx_end {p : List In} {b : Bool} {v : Int} (h : ∀ i, lk p v = some i → i.1 ≠ 5) : nx p b true v = nx p b false v := by
  unfold nx
  cases hi : lk p v with
  | none => rfl
  | some i =>
    have := h i hi
    simp only [this, if_false]
theorem nx_sub {p : List In} {b : Bool} {v u : Int} (h : u ∈ nx p b false v) : u ∈ nx p b true v := by
  unfold nx at h ⊢
  cases hi : lk p v with
  | none => rw [hi] at h; exact h
  | some i =>
    rw [hi] at h
    dsimp only at h ⊢
    repeat' split at h
    all_goals simp_all
theorem anyR_none {p : List In} {r : List Bool} {a b : Int} (h : anyR p r a b = false) {v : Int} {i : In} (hm : Mk r v) (hi : lk p v = some i) : i.1 ≠ a ∧ i.1 ≠ b := by
  obtain ⟨_, h1⟩ := Mk.iff_nat.1 hm
  obtain ⟨_, _, h2⟩ := lk_some' hi
  constructor <;> intro e
  · have : anyR p r a b = true := (anyR_iff p r a b).2 ⟨v.toNat, i, h2, h1, .inl e⟩
    rw [h] at this; cases this
  · have : anyR p r a b = true := (anyR_iff p r a b).2 ⟨v.toNat, i, h2, h1, .inr e⟩
    rw [h] at this; cases this
theorem clM_end {p : List In} (hp : GP p) {b : Bool} {s : List Bool} (hl : s.length = p.length) (h : anyR p (clM p b false s) 1 5 = false) : clM p b true s = clM p b false s := by
  refine marks_ext ((clM_length _ _ _ _).trans (clM_length _ _ _ _).symm) fun v => ?_
  rw [clM_mk p b true s hp hl, clM_mk p b false s hp hl]
  constructor
  · refine Cl.least (fun w hw => .base hw) fun w hw u hu => ?_
    refine .step hw ?_
    rw [← nx_end]
    · exact hu
    · intro i hi
      exact (anyR_none h ((clM_mk p b false s hp hl w).2 hw) hi).2
  · exact Cl.least (fun w hw => .base hw) fun w hw u hu => .step hw (nx_sub hu)
theorem seed_none {p : List In} {r : List Bool} {t : Tx} (h : anyR p r 1 5 = false) : (seedM p r t).count true = 0 := by
  rw [List.count_eq_zero]
  intro hm
  unfold seedM seedTo at hm
  obtain ⟨j, hj, he⟩ := List.mem_map.1 hm
  simp only [Bool.and_eq_true, decide_eq_true_eq] at he
  obtain ⟨_, _, h3⟩ := he
  unfold seedF at h3
  split at h3
  · rename_i i h1 h2
    simp only [Bool.and_eq_true, decide_eq_true_eq] at h3
    have : anyR p r 1 5 = true := (anyR_iff p r 1 5).2 ⟨j - 1, i, h1, h2, .inl h3.1⟩
    rw [h] at this; cases this
  · cases h3
theorem clM_none {p : List In} (hp : GP p) {b e : Bool} {s : List Bool} (hl : s.length = p.length) (h : s.count true = 0) : (clM p b e s).count true = 0 := by
  rw [List.count_eq_zero]
  intro hm
  obtain ⟨k, hk⟩ := List.getElem?_of_mem hm
  have : Mk (clM p b e s) (k : Int) := Mk.iff_nat.2 ⟨by omega, by simpa using hk⟩
  rw [clM_mk p b e s hp hl] at this
  have no : ∀ v, ¬ Cl p b e (Mk s) v := fun v hv => by
    induction hv with
    | base h1 =>
      obtain ⟨_, h2⟩ := Mk.iff_nat.1 h1
      have := List.count_pos_iff.2 (List.mem_of_getElem? h2)
      omega
    | step _ _ ih => exact ih
  exact no _ this
theorem runP_none {p : List In} {fin : Bool} {rest : Ws} {place : Int} {r : List Bool} {e : Int} {f : Bool} {st : Int} (h : r.count true = 0) : runP p fin rest place r e f st = (e, f, false, st) := by
  cases rest with
  | nil => simp [runP, any_none (p := p) h]
  | cons t rest => simp [runP, h, any_none (p := p) h]
theorem runP_more {p : List In} (hp : GP p) (fin : Bool) (w2 : Ws) : ∀ (rest : Ws) (place : Int) (b : Bool) (s : List Bool) (e : Int) (f : Bool) (st st2 : Int), s.length = p.length →
    (runP p false rest place (clM p b false s) e f st).2.2.1 = false →
    (runP p fin (rest ++ w2) place (clM p b (fin && (rest ++ w2).isEmpty) s) e f st2).1 = (runP p false rest place (clM p b false s) e f st).1 ∧
    (runP p fin (rest ++ w2) place (clM p b (fin && (rest ++ w2).isEmpty) s) e f st2).2.1 = (runP p false rest place (clM p b false s) e f st).2.1 ∧
    (runP p fin (rest ++ w2) place (clM p b (fin && (rest ++ w2).isEmpty) s) e f st2).2.2.1 = false := by
  intro rest
  induction rest with
  | nil =>
    intro place b s e f st st2 hl h
    simp only [runP, Bool.not_false, Bool.true_and] at h
    have hR : clM p b (fin && ([] ++ w2).isEmpty) s = clM p b false s := by
      cases fin && ([] ++ w2).isEmpty with
      | false => rfl
      | true => exact clM_end hp hl h
    rw [hR]
    cases w2 with
    | nil => exact ⟨rfl, rfl, by simp [runP, h]⟩
    | cons t w2 =>
      simp only [List.nil_append]
      by_cases hz : (clM p b false s).count true = 0
      · simp [runP, hz]
      · simp only [runP, if_neg hz]
        rw [runP_none (clM_none hp (seedM_length _ _ _) (seed_none h))]
        exact ⟨rfl, rfl, rfl⟩
  | cons t rest ih =>
    intro place b s e f st st2 hl h
    simp only [List.cons_append, List.isEmpty_cons, Bool.and_false]
    by_cases hz : (clM p b false s).count true = 0
    · simp [runP, hz]
    · simp only [runP, if_neg hz] at h ⊢
      simp only [Bool.false_and] at h ⊢
      exact ih _ _ _ _ _ _ _ (seedM_length _ _ _) h
theorem longP_more {p : List In} (hp : GP p) {w1 w2 : Ws} {a : Nat} {beg fin : Bool} (ha : a ≤ w1.length) (h : (longP p w1 a beg false).2.2.1 = false) :
    (longP p (w1 ++ w2) a beg fin).1 = (longP p w1 a beg false).1 ∧ (longP p (w1 ++ w2) a beg fin).2.1 = (longP p w1 a beg false).2.1 ∧ (longP p (w1 ++ w2) a beg fin).2.2.1 = false := by
  have e1 : first p w1 a beg false = clM p (beg && decide (a = 0)) false (start p) := by simp [first]
  have e2 : (w1 ++ w2).drop a = w1.drop a ++ w2 := List.drop_append_of_le_length ha
  have e3 : first p (w1 ++ w2) a beg fin = clM p (beg && decide (a = 0)) (fin && (w1.drop a ++ w2).isEmpty) (start p) := by
    have : decide (a = (w1 ++ w2).length) = (w1.drop a ++ w2).isEmpty := by
      rw [← e2, Bool.eq_iff_iff]; simp only [decide_eq_true_eq, List.isEmpty_iff, List.drop_eq_nil_iff, List.length_append]; omega
    unfold first; rw [this]
  unfold longP at h ⊢
  rw [e1] at h
  rw [e3, e2, e1]
  exact runP_more hp fin w2 _ _ _ _ _ _ _ _ (start_length p) h
theorem runP_shift (p : List In) (fin : Bool) (d : Int) : ∀ (rest : Ws) (place : Int) (r : List Bool) (e e2 : Int) (f : Bool) (st st2 : Int), (f = true → e2 = e + d) →
    ((runP p fin rest place r e f st).2.1 = true → (runP p fin rest (place + d) r e2 f st2).1 = (runP p fin rest place r e f st).1 + d) ∧
    (runP p fin rest (place + d) r e2 f st2).2.1 = (runP p fin rest place r e f st).2.1 ∧
    (runP p fin rest (place + d) r e2 f st2).2.2.1 = (runP p fin rest place r e f st).2.2.1
  | [], place, r, e, e2, f, st, st2, h => by
    simp only [runP]
    refine ⟨fun hh => ?_, trivial, trivial⟩
    cases hc : anyR p r 6 6 with
    | true => simp
    | false => rw [hc] at hh; simpa using h (by simpa using hh)
  | t :: rest, place, r, e, e2, f, st, st2, h => by
    by_cases hz : r.count true = 0
    · rw [runP_none hz, runP_none hz]
      exact ⟨h, rfl, rfl⟩
    · simp only [runP, if_neg hz]
      have e1 : place + d + 1 = place + 1 + d := by omega
      rw [e1]
      refine runP_shift p fin d rest (place + 1) _ _ _ _ _ _ fun hh => ?_
      cases hc : anyR p r 6 6 with
      | true => simp
      | false => rw [hc] at hh; simpa using h (by simpa using hh)
theorem longP_shift (p : List In) (w : Ws) (a : Nat) (fin : Bool) (ha : a ≤ w.length) :
    ((longP p w a false fin).2.1 = true → (longP p w a false fin).1 = (longP p (w.drop a) 0 false fin).1 + a) ∧ (longP p w a false fin).2.1 = (longP p (w.drop a) 0 false fin).2.1 ∧ (longP p w a false fin).2.2.1 = (longP p (w.drop a) 0 false fin).2.2.1 := by
  have e1 : first p w a false fin = first p (w.drop a) 0 false fin := by
    have : decide (a = w.length) = decide (0 = (w.drop a).length) := by rw [Bool.eq_iff_iff]; simp; omega
    unfold first; rw [this]; simp
  have h := runP_shift p fin (a : Int) (w.drop a) 0 (first p (w.drop a) 0 false fin) 0 0 false ((first p (w.drop a) 0 false fin).count true : Int) ((first p (w.drop a) 0 false fin).count true : Int) (fun h => by cases h)
  obtain ⟨h1, h2, h3⟩ := h
  have e2 : longP p w a false fin = runP p fin (w.drop a) (0 + (a : Int)) (first p (w.drop a) 0 false fin) 0 false ((first p (w.drop a) 0 false fin).count true : Int) := by
    unfold longP; rw [e1]; simp
  have e3 : longP p (w.drop a) 0 false fin = runP p fin (w.drop a) 0 (first p (w.drop a) 0 false fin) 0 false ((first p (w.drop a) 0 false fin).count true : Int) := by
    unfold longP; simp
  rw [e2, e3]
  exact ⟨fun h => h1 (h2 ▸ h), h2, h3⟩
theorem longP_beg (p : List In) (w : Ws) (a : Nat) (fin : Bool) (ha : a ≠ 0) : longP p w a true fin = longP p w a false fin := by
  have : first p w a true fin = first p w a false fin := by simp [first, ha]
  unfold longP; rw [this]
theorem runP_found (p : List In) (fin : Bool) (lo : Int) : ∀ (rest : Ws) (place : Int) (r : List Bool) (e : Int) (f : Bool) (st : Int), lo ≤ place → (f = true → lo ≤ e) → (runP p fin rest place r e f st).2.1 = true → lo ≤ (runP p fin rest place r e f st).1
  | [], place, r, e, f, st, hlo, h, hh => by
    simp only [runP] at hh ⊢
    cases hc : anyR p r 6 6 with
    | true => simpa using hlo
    | false => rw [hc] at hh; simpa using h (by simpa using hh)
  | t :: rest, place, r, e, f, st, hlo, h, hh => by
    by_cases hz : r.count true = 0
    · rw [runP_none hz] at hh ⊢
      exact h hh
    · simp only [runP, if_neg hz] at hh ⊢
      refine runP_found p fin lo rest _ _ _ _ _ (by omega) (fun h2 => ?_) hh
      cases hc : anyR p r 6 6 with
      | true => simpa using hlo
      | false => rw [hc] at h2; simpa using h (by simpa using h2)
theorem longP_found {p : List In} {w : Ws} {a : Nat} {beg fin : Bool} (h : (longP p w a beg fin).2.1 = true) : (a : Int) ≤ (longP p w a beg fin).1 := by
  unfold longP at h ⊢
  exact runP_found p fin (a : Int) _ _ _ _ _ _ (Int.le_refl _) (fun h => by cases h) h
def GoodS (p : List In) (w : Ws) (x : SpanT) : Prop := ∃ a : Nat, x = ((a : Int), ((longP p w a true true).1, (0, 0))) ∧ a ≤ w.length ∧ (longP p w a true true).2.1 = true
def Far (x y : SpanT) : Prop := x.1 < y.1 ∧ x.2.1 ≤ y.1
theorem allP_good (p : List In) (w : Ws) : ∀ (k a : Nat), ∀ x ∈ allP p w k a, GoodS p w x ∧ (a : Int) ≤ x.1
  | 0, a => by simp [allP]
  | k + 1, a => by
    intro x hx
    simp only [allP] at hx
    split at hx
    · cases hx
    · rename_i hle
      rcases List.mem_append.1 hx with hx | hx
      · split at hx
        · rename_i hf
          simp only [List.mem_singleton] at hx
          subst hx
          exact ⟨⟨a, rfl, by omega, hf⟩, by simp⟩
        · cases hx
      · obtain ⟨h1, h2⟩ := allP_good p w k _ x hx
        have := nxtP_gt p w a
        exact ⟨h1, by omega⟩
theorem allP_far (p : List In) (w : Ws) : ∀ (k a : Nat), (allP p w k a).Pairwise Far
  | 0, a => by simp [allP]
  | k + 1, a => by
    simp only [allP]
    split
    · exact List.Pairwise.nil
    · rename_i hle
      refine List.pairwise_append.2 ⟨by split <;> simp, allP_far p w k _, fun x hx y hy => ?_⟩
      split at hx
      · rename_i hf
        simp only [List.mem_singleton] at hx
        subst hx
        have h2 := (allP_good p w k _ y hy).2
        have h3 := longP_found hf
        unfold nxtP at h2
        unfold Far
        dsimp only
        split at h2 <;> constructor <;> omega
      · cases hx
end Go.Vt.Pk
