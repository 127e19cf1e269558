/- The program's calls, in values. -/
import Derived.Test.YtfmhkcidechgdaaGreatVtPp5
set_option linter.unusedVariables false
set_option maxRecDepth 100000
namespace Go.Vt.Pk
open Go Go.Vt Go.Vt.Rm Go.Sort Go.Vt.Srt
structure In8 (p : List In) (win : Ws) : Prop where
  len : p.length ≤ 10000000
  sets : ∀ i ∈ p, OkS 20000000 i.2.1
  wlen : win.length ≤ 10000000
  txt : ∀ t ∈ win, t.length ≤ 10000000
theorem In8.gd {p : List In} {win : Ws} (h : In8 p win) (hm : mayP p = true) : Gd p win := ⟨mayP_gp hm, h.sets, h.wlen, h.txt⟩
theorem runP_st (p : List In) (fin : Bool) : ∀ (rest : Ws) (place : Int) (r : List Bool) (e : Int) (f : Bool) (st d : Int),
    runP p fin rest place r e f (st + d) = ((runP p fin rest place r e f st).1, (runP p fin rest place r e f st).2.1, (runP p fin rest place r e f st).2.2.1, (runP p fin rest place r e f st).2.2.2 + d)
  | [], place, r, e, f, st, d => rfl
  | t :: rest, place, r, e, f, st, d => by
    by_cases hz : r.count true = 0
    · simp only [runP, if_pos hz]
    · simp only [runP, if_neg hz]
      rw [Int.add_right_comm]
      exact runP_st p fin rest _ _ _ _ _ d
theorem runP_steps (p : List In) (fin : Bool) : ∀ (rest : Ws) (place : Int) (r : List Bool) (e : Int) (f : Bool) (st : Int),
    st ≤ (runP p fin rest place r e f st).2.2.2 ∧ (runP p fin rest place r e f st).2.2.2 ≤ st + (p.length : Int) * (rest.length : Int)
  | [], place, r, e, f, st => by simp [runP]
  | t :: rest, place, r, e, f, st => by
    have hb : (p.length : Int) * ((t :: rest).length : Int) = (p.length : Int) * (rest.length : Int) + p.length := by
      simp only [List.length_cons, Int.natCast_add, Int.mul_add]; omega
    have hnn : (0 : Int) ≤ (p.length : Int) * (rest.length : Int) := Int.mul_nonneg (by omega) (by omega)
    by_cases hz : r.count true = 0
    · simp only [runP, if_pos hz]
      omega
    · simp only [runP, if_neg hz]
      obtain ⟨h1, h2⟩ := runP_steps p fin rest (place + 1) (clM p false (fin && rest.isEmpty) (seedM p r t)) (if anyR p r 6 6 = true then place else e) (f || anyR p r 6 6) (st + ((clM p false (fin && rest.isEmpty) (seedM p r t)).count true : Int))
      have hc : (clM p false (fin && rest.isEmpty) (seedM p r t)).count true ≤ p.length := Nat.le_trans List.count_le_length (Nat.le_of_eq (clM_length _ _ _ _))
      omega
theorem runP_end (p : List In) (fin : Bool) : ∀ (rest : Ws) (place : Int) (r : List Bool) (e : Int) (f : Bool) (st : Int),
    ((runP p fin rest place r e f st).2.1 = false → (runP p fin rest place r e f st).1 = e ∧ f = false) ∧
    ((runP p fin rest place r e f st).1 = e ∨ (place ≤ (runP p fin rest place r e f st).1 ∧ (runP p fin rest place r e f st).1 ≤ place + (rest.length : Int)))
  | [], place, r, e, f, st => by
    simp only [runP, List.length_nil]
    constructor
    · intro h
      simp only [Bool.or_eq_false_iff] at h
      rw [h.2]
      exact ⟨by simp, h.1⟩
    · split
      · exact .inr ⟨by omega, by omega⟩
      · exact .inl rfl
  | t :: rest, place, r, e, f, st => by
    by_cases hz : r.count true = 0
    · simp only [runP, if_pos hz, List.length_cons]
      constructor
      · intro h
        simp only [Bool.or_eq_false_iff] at h
        rw [h.2]
        exact ⟨by simp, h.1⟩
      · split
        · exact .inr ⟨by omega, by omega⟩
        · exact .inl rfl
    · simp only [runP, if_neg hz, List.length_cons]
      obtain ⟨h1, h2⟩ := runP_end p fin rest (place + 1) (clM p false (fin && rest.isEmpty) (seedM p r t)) (if anyR p r 6 6 = true then place else e) (f || anyR p r 6 6) (st + ((clM p false (fin && rest.isEmpty) (seedM p r t)).count true : Int))
      constructor
      · intro h
        obtain ⟨g1, g2⟩ := h1 h
        simp only [Bool.or_eq_false_iff] at g2
        rw [g2.2] at g1
        rw [g2.2]
        refine ⟨by simpa using g1, g2.1⟩
      · rcases h2 with h2 | ⟨h2, h3⟩
        · rw [h2]
          split
          · exact .inr ⟨by omega, by omega⟩
          · exact .inl rfl
        · exact .inr ⟨by omega, by omega⟩
theorem longP_end {p : List In} {win : Ws} {at' : Nat} {beg fin : Bool} (ha : at' ≤ win.length) :
    ((longP p win at' beg fin).2.1 = false → (longP p win at' beg fin).1 = 0) ∧ 0 ≤ (longP p win at' beg fin).1 ∧ (longP p win at' beg fin).1 ≤ win.length ∧ ((longP p win at' beg fin).1 = 0 ∨ (at' : Int) ≤ (longP p win at' beg fin).1) := by
  obtain ⟨h1, h2⟩ := runP_end p fin (win.drop at') (at' : Int) (first p win at' beg fin) 0 false ((first p win at' beg fin).count true : Int)
  have hl : (win.drop at').length = win.length - at' := by simp
  rw [hl] at h2
  unfold longP
  refine ⟨fun h => (h1 h).1, ?_, ?_, ?_⟩ <;> omega
theorem longP_steps {p : List In} {win : Ws} {at' : Nat} {beg fin : Bool} (ha : at' ≤ win.length) :
    0 ≤ (longP p win at' beg fin).2.2.2 ∧ (longP p win at' beg fin).2.2.2 ≤ (p.length : Int) * ((win.length : Int) - at' + 1) := by
  obtain ⟨h1, h2⟩ := runP_steps p fin (win.drop at') (at' : Int) (first p win at' beg fin) 0 false ((first p win at' beg fin).count true : Int)
  have hl : ((win.drop at').length : Int) = (win.length : Int) - at' := by simp; omega
  have hc : (first p win at' beg fin).count true ≤ p.length := Nat.le_trans List.count_le_length (Nat.le_of_eq (clM_length _ _ _ _))
  rw [hl] at h2
  unfold longP
  have : (p.length : Int) * ((win.length : Int) - at' + 1) = (p.length : Int) * ((win.length : Int) - at') + p.length := by rw [Int.mul_add]; omega
  omega
def fitB (p : List In) (win : Ws) (a : Int) : Prop := mayP p = true ∧ 0 ≤ a ∧ a ≤ (win.length : Int)
theorem pMade_is (p : List In) (win : Ws) (beg fin : Bool) (hp : p.length ≤ 4096) : pMade p win beg fin = some ((), (mc p win beg fin (List.replicate p.length 0, []) (List.replicate p.length 0, []) [] 0, ())) := by
  simp only [pMade, spNew_is p.length hp, Option.bind_some, mc]
theorem pLong0 (p : List In) (win : Ws) (beg fin : Bool) (at' : Nat) (hg : Gd p win) (ha : at' ≤ win.length) :
    ∃ now next, pLong (mc p win beg fin (List.replicate p.length 0, []) (List.replicate p.length 0, []) [] 0) (at' : Int) = some (mc p win beg fin now next [] (longP p win at' beg fin).2.2.2, ((longP p win at' beg fin).1, ((longP p win at' beg fin).2.1, ((longP p win at' beg fin).2.2.1, ())))) := by
  obtain ⟨now', next', e', f', o, st', h1, _, _, h2, _⟩ := pLong_is p win beg fin (List.replicate p.length 0, []) (List.replicate p.length 0, []) 0 at' hg (Sp.new _) (Sp.new _) ha (by omega)
  have hl : longP p win at' beg fin = (e', f', o, (st' : Int)) := by
    unfold longP
    rw [← h2]
    congr 1
    simp
  rw [hl]
  exact ⟨now', next', h1⟩
theorem pLongest_yes {p : List In} {win : Ws} {a : Int} {beg fin : Bool} (h : In8 p win) (hf : fitB p win a) : pLongest p win a beg fin = some ((), (longP p win a.toNat beg fin).1, (longP p win a.toNat beg fin).2.1, (longP p win a.toNat beg fin).2.2.1, 0, ()) := by
  obtain ⟨hm, h0, h1⟩ := hf
  obtain ⟨n, rfl⟩ := Int.eq_ofNat_of_zero_le h0
  have hg := h.gd hm
  obtain ⟨now, next, hl⟩ := pLong0 p win beg fin n hg (by omega)
  have e1 : ¬ ((n : Int) < 0) := by omega
  have e2 : ¬ ((n : Int) > (win.length : Int)) := by omega
  simp only [pLongest, pMay_is p h.len h.sets, Option.bind_some, hm, Bool.not_true, cond_false, e1, e2, decide_false, pMade_is p win beg fin hg.gp.len, hl, Int.toNat_natCast]
theorem pLongest_no {p : List In} {win : Ws} {a : Int} {beg fin : Bool} (h : In8 p win) (hf : ¬ fitB p win a) : pLongest p win a beg fin = some ((), 0, false, false, 1, ()) := by
  unfold fitB at hf
  simp only [pLongest, pMay_is p h.len h.sets, Option.bind_some]
  cases hm : mayP p with
  | false => simp only [Bool.not_false, cond_true, Option.bind_some]
  | true =>
    by_cases e1 : a < 0
    · simp only [Bool.not_true, cond_false, e1, decide_true, cond_true, Option.bind_some]
    · have e2 : a > (win.length : Int) := by
        rw [hm] at hf
        simp at hf
        omega
      simp only [Bool.not_true, cond_false, e1, e2, decide_true, decide_false, cond_true, Option.bind_some]
theorem pSteps_yes {p : List In} {win : Ws} {a : Int} {beg fin : Bool} (h : In8 p win) (hf : fitB p win a) : pSteps p win a beg fin = some ((), (longP p win a.toNat beg fin).2.2.2, ()) := by
  obtain ⟨hm, h0, h1⟩ := hf
  obtain ⟨n, rfl⟩ := Int.eq_ofNat_of_zero_le h0
  have hg := h.gd hm
  obtain ⟨now, next, hl⟩ := pLong0 p win beg fin n hg (by omega)
  have e1 : ¬ ((n : Int) < 0) := by omega
  have e2 : ¬ ((n : Int) > (win.length : Int)) := by omega
  simp only [pSteps, pMay_is p h.len h.sets, Option.bind_some, hm, Bool.not_true, cond_false, e1, e2, decide_false, pMade_is p win beg fin hg.gp.len, hl, Int.toNat_natCast]
  rfl
theorem pSteps_no {p : List In} {win : Ws} {a : Int} {beg fin : Bool} (h : In8 p win) (hf : ¬ fitB p win a) : pSteps p win a beg fin = some ((), 0, ()) := by
  unfold fitB at hf
  simp only [pSteps, pMay_is p h.len h.sets, Option.bind_some]
  cases hm : mayP p with
  | false => simp only [Bool.not_false, cond_true, Option.bind_some]
  | true =>
    by_cases e1 : a < 0
    · simp only [Bool.not_true, cond_false, e1, decide_true, cond_true, Option.bind_some]
    · have e2 : a > (win.length : Int) := by
        rw [hm] at hf
        simp at hf
        omega
      simp only [Bool.not_true, cond_false, e1, e2, decide_true, decide_false, cond_true, Option.bind_some]
abbrev SpanT := Int × (Int × (Int × Int))
noncomputable def nxtP (p : List In) (win : Ws) (a : Nat) : Nat := if (longP p win a true true).1 > (a : Int) then (longP p win a true true).1.toNat else a + 1
noncomputable def allP (p : List In) (win : Ws) : Nat → Nat → List SpanT
  | 0, _ => []
  | k + 1, a => if win.length < a then [] else
      (if (longP p win a true true).2.1 = true then [((a : Int), ((longP p win a true true).1, (0, 0)))] else []) ++ allP p win k (nxtP p win a)
theorem nxtP_gt (p : List In) (win : Ws) (a : Nat) : a < nxtP p win a := by unfold nxtP; split <;> omega
theorem nxtP_le {p : List In} {win : Ws} {a : Nat} (h : a ≤ win.length) : nxtP p win a ≤ win.length + 1 := by
  have := (longP_end (p := p) (beg := true) (fin := true) h).2
  unfold nxtP; split <;> omega
theorem allP_length (p : List In) (win : Ws) : ∀ (k a : Nat), (allP p win k a).length ≤ k
  | 0, a => by simp [allP]
  | k + 1, a => by
    simp only [allP]
    split
    · simp
    · have := allP_length p win k (nxtP p win a)
      split <;> simp <;> omega
theorem all_loop (p : List In) (win : Ws) (hg : Gd p win) : ∀ (m a : Nat) (acc : List SpanT) (n : Nat), win.length + 1 ≤ a + m → a ≤ win.length + 1 → acc.length ≤ a → m < n →
    iterN (fun x => all10_s2 x.1 x.2.1 x.2.2.1 x.2.2.2.1) n (p, (win, (acc, ((a : Int), ())))) = some (acc ++ allP p win m a, ()) := by
  have hwl := hg.len
  intro m
  induction m with
  | zero =>
    intro a acc n h1 h2 h3 hn
    obtain ⟨n, rfl⟩ := succ_of hn
    have : ¬ ((a : Int) ≤ (win.length : Int)) := by omega
    refine iterN_inr ?_
    simp only [all10_s2, this, decide_false, cond_false, Option.bind_some, allP, List.append_nil]
  | succ m ih =>
    intro a acc n h1 h2 h3 hn
    obtain ⟨n, rfl⟩ := succ_of (Nat.lt_of_le_of_lt (Nat.zero_le _) hn)
    by_cases hle : a ≤ win.length
    · have hc : ((a : Int) ≤ (win.length : Int)) := by omega
      have hlo := long10_is p win a true true hg hle
      have hrm : roomOk (acc.length + [((a : Int), ((longP p win a true true).1, ((0 : Int), (0 : Int))))].length) 32 = true := roomN (by omega) (by simp; omega)
      have hng := nxtP_gt p win a
      have hnl := nxtP_le (p := p) hle
      obtain ⟨g1, g2, g3, g4⟩ := longP_end (p := p) (beg := true) (fin := true) hle
      have ew : IntKind.i64.wrap ((a : Int) + 1) = ((a + 1 : Nat) : Int) := by rw [wrap64] <;> omega
      have hal : allP p win (m + 1) a = (if (longP p win a true true).2.1 = true then [((a : Int), ((longP p win a true true).1, (0, 0)))] else []) ++ allP p win m (nxtP p win a) := by
        simp only [allP]; rw [if_neg (by omega)]
      rw [hal, ← List.append_assoc]
      refine (iterN_inl ?_).trans (ih (nxtP p win a) _ n (by omega) hnl ?_ (by omega))
      · cases hf : (longP p win a true true).2.1 with
        | false =>
          have he : nxtP p win a = a + 1 := by unfold nxtP; rw [if_neg (by rw [g1 hf]; omega)]
          rw [hf] at hlo
          simp only [all10_s2, hc, decide_true, cond_true, cond_false, Option.bind_some, hlo, he, ew, Bool.false_eq_true, if_false, List.append_nil]
        | true =>
          rw [hf] at hlo
          by_cases hg : (longP p win a true true).1 > (a : Int)
          · have he : ((nxtP p win a : Nat) : Int) = (longP p win a true true).1 := by unfold nxtP; rw [if_pos hg]; omega
            simp only [all10_s2, hc, decide_true, cond_true, Option.bind_some, hlo, hrm, he, hg, if_true]
          · have he : nxtP p win a = a + 1 := by unfold nxtP; rw [if_neg hg]
            simp only [all10_s2, hc, decide_true, decide_false, cond_true, cond_false, Option.bind_some, hlo, hrm, he, hg, ew, if_true]
      · split <;> simp <;> omega
    · have : ¬ ((a : Int) ≤ (win.length : Int)) := by omega
      have hal : allP p win (m + 1) a = [] := by simp only [allP]; rw [if_pos (by omega)]
      refine iterN_inr ?_
      rw [hal]
      simp only [all10_s2, this, decide_false, cond_false, Option.bind_some, List.append_nil]
noncomputable def allL (p : List In) (win : Ws) : List SpanT := allP p win (win.length + 1) 0
theorem all10_is (p : List In) (win : Ws) (hg : Gd p win) : all10 p win = some ((), (allL p win, ())) := by
  have hwl := hg.len
  have h := all_loop p win hg (win.length + 1) 0 [] fuN (by omega) (by omega) (by simp) (by have := fuN_le; omega)
  have h' : iterN (fun x => all10_s2 x.1 x.2.1 x.2.2.1 x.2.2.2.1) fuN (p, (win, (([] : List SpanT), ((0 : Int), ())))) = some (allL p win, ()) := h
  simp only [all10, h', Option.bind_some]
theorem pall_loop (p : List In) (win : Ws) (hg : Gd p win) : ∀ (m a : Nat) (now next : SpT) (st : Nat) (acc : List SpanT) (n : Nat), win.length + 1 ≤ a + m → a ≤ win.length + 1 → acc.length ≤ a → st ≤ 100000000000 * a → Sp p.length now → Sp p.length next → m < n →
    iterN (fun x => pAll_s7 x.1 x.2.1 x.2.2.1 x.2.2.2.1) n (win, (mc p win true true now next [] (st : Int), (acc, ((a : Int), ())))) = some (acc ++ allP p win m a, ()) := by
  have hwl := hg.len
  intro m
  induction m with
  | zero =>
    intro a now next st acc n h1 h2 h3 h4 h5 h6 hn
    obtain ⟨n, rfl⟩ := succ_of hn
    have : ¬ ((a : Int) ≤ (win.length : Int)) := by omega
    refine iterN_inr ?_
    simp only [pAll_s7, this, decide_false, cond_false, Option.bind_some, allP, List.append_nil]
  | succ m ih =>
    intro a now next st acc n h1 h2 h3 h4 h5 h6 hn
    obtain ⟨n, rfl⟩ := succ_of (Nat.lt_of_le_of_lt (Nat.zero_le _) hn)
    by_cases hle : a ≤ win.length
    · have hc : ((a : Int) ≤ (win.length : Int)) := by omega
      obtain ⟨now', next', e', f', o, st', q1, q2, q3, q4, q5⟩ := pLong_is p win true true now next st a hg h5 h6 hle (by omega)
      have hl4 : ((longP p win a true true).1 = e') ∧ (longP p win a true true).2.1 = f' := by
        have : runP p true (win.drop a) (a : Int) (first p win a true true) 0 false (((first p win a true true).count true : Int) + (st : Int)) = (e', f', o, (st' : Int)) := by
          rw [← q4]; congr 1; simp; omega
        rw [runP_st] at this
        unfold longP
        exact ⟨congrArg (·.1) this, congrArg (·.2.1) this⟩
      obtain ⟨l1, l2⟩ := hl4
      have hrm : roomOk (acc.length + [((a : Int), (e', ((0 : Int), (0 : Int))))].length) 32 = true := roomN (by omega) (by simp; omega)
      have hng := nxtP_gt p win a
      have hnl := nxtP_le (p := p) hle
      obtain ⟨g1, g2, g3, g4⟩ := longP_end (p := p) (beg := true) (fin := true) hle
      have ew : IntKind.i64.wrap ((a : Int) + 1) = ((a + 1 : Nat) : Int) := by rw [wrap64] <;> omega
      have hal : allP p win (m + 1) a = (if (longP p win a true true).2.1 = true then [((a : Int), ((longP p win a true true).1, (0, 0)))] else []) ++ allP p win m (nxtP p win a) := by
        simp only [allP]; rw [if_neg (by omega)]
      have he : (if e' > ((a + 1 : Nat) : Int) then e' else ((a + 1 : Nat) : Int)) = ((nxtP p win a : Nat) : Int) := by
        unfold nxtP; rw [l1]; rw [l1] at g2; split <;> split <;> omega
      rw [hal, ← List.append_assoc]
      refine (iterN_inl ?_).trans (ih (nxtP p win a) now' next' st' _ n (by omega) hnl ?_ (by omega) q2 q3 (by omega))
      · rw [l1, l2]
        cases f' with
        | false => simp only [pAll_s7, hc, decide_true, cond_true, cond_false, Option.bind_some, q1, ew, he, Bool.false_eq_true, if_false, List.append_nil]
        | true => simp only [pAll_s7, hc, decide_true, cond_true, Option.bind_some, q1, ew, he, hrm, if_true]
      · split <;> simp <;> omega
    · have : ¬ ((a : Int) ≤ (win.length : Int)) := by omega
      have hal : allP p win (m + 1) a = [] := by simp only [allP]; rw [if_pos (by omega)]
      refine iterN_inr ?_
      rw [hal]
      simp only [pAll_s7, this, decide_false, cond_false, Option.bind_some, List.append_nil]
theorem pAll_yes {p : List In} {win : Ws} (h : In8 p win) (hm : mayP p = true) : pAll p win = some ((), (allL p win, (0, ()))) := by
  have hg := h.gd hm
  have hwl := hg.len
  have hl := pall_loop p win hg (win.length + 1) 0 (List.replicate p.length 0, []) (List.replicate p.length 0, []) 0 [] fuN (by omega) (by omega) (by simp) (by omega) (Sp.new _) (Sp.new _) (by have := fuN_le; omega)
  have hl' : iterN (fun x => pAll_s7 x.1 x.2.1 x.2.2.1 x.2.2.2.1) fuN (win, (mc p win true true (List.replicate p.length 0, []) (List.replicate p.length 0, []) [] 0, (([] : List SpanT), ((0 : Int), ())))) = some (allL p win, ()) := hl
  simp only [pAll, pMay_is p h.len h.sets, Option.bind_some, hm, Bool.not_true, cond_false, pMade_is p win true true hg.gp.len, hl']
theorem pAll_no {p : List In} {win : Ws} (h : In8 p win) (hm : mayP p = false) : pAll p win = some ((), ([], (1, ()))) := by
  simp only [pAll, pMay_is p h.len h.sets, Option.bind_some, hm, Bool.not_false, cond_true]
theorem pWhole_yes {p : List In} {win : Ws} (h : In8 p win) (hm : mayP p = true) : pWhole p win = some ((), (((longP p win 0 true true).2.1 && ((longP p win 0 true true).1 == (win.length : Int))), (0, ()))) := by
  have := pLongest_yes (a := 0) (beg := true) (fin := true) h ⟨hm, by omega, by omega⟩
  simp only [pWhole, this, Option.bind_some, Int.toNat_zero]
  cases (longP p win 0 true true).2.1 <;> rfl
theorem pWhole_no {p : List In} {win : Ws} (h : In8 p win) (hm : mayP p = false) : pWhole p win = some ((), (false, (1, ()))) := by
  have := pLongest_no (a := 0) (beg := true) (fin := true) h (fun hf => by rw [hf.1] at hm; cases hm)
  simp only [pWhole, this, Option.bind_some, cond_false]
theorem same_loop (l : List SpanT) (hl : l.length ≤ 100000000) : ∀ (rest pre : List SpanT) (n : Nat), l = pre ++ rest → rest.length < n →
    iterN (fun x => sameSpans_s4 x.1 x.2.1 x.2.2.1) n (l, (l, (((pre.length : Nat) : Int), ()))) = some (.inr ()) := by
  intro rest
  induction rest with
  | nil =>
    intro pre n hp hn
    obtain ⟨n, rfl⟩ := succ_of hn
    subst hp
    refine iterN_inr ?_
    simp [sameSpans_s4]
  | cons v rest ih =>
    intro pre n hp hn
    simp only [List.length_cons] at hn
    obtain ⟨n, rfl⟩ := succ_of hn
    have hlt : ((pre.length : Nat) : Int) < (l.length : Int) := by rw [hp]; exact lt_mid
    have hk : lk l ((pre.length : Nat) : Int) = some v := by rw [hp]; exact lk_mid
    have hpl : pre.length ≤ l.length := by rw [hp]; simp
    have ew : IntKind.i64.wrap (((pre.length : Nat) : Int) + 1) = (((pre ++ [v]).length : Nat) : Int) := w_mid (by omega)
    refine (iterN_inl ?_).trans (ih (pre ++ [v]) n (by rw [hp]; simp) (by omega))
    simp only [sameSpans_s4, hlt, decide_true, cond_true, cond_false, hk, Option.bind_some, Bool.and_self, Bool.not_true, ew]
theorem sameSpans_is (l : List SpanT) (hl : l.length ≤ 100000000) : sameSpans l l = some ((), (true, ())) := by
  have h := same_loop l hl l [] fuN rfl (by have := fuN_le; omega)
  have h' : iterN (fun x => sameSpans_s4 x.1 x.2.1 x.2.2.1) fuN (l, (l, ((0 : Int), ()))) = some (.inr ()) := h
  simp only [sameSpans, bne_self_eq_false, cond_false, Option.bind_some, h']
end Go.Vt.Pk
