/- The longest match, as the reference finds it. -/
import Derived.Test.YtfmhkcidechgdaaGreatVtPp2
set_option linter.unusedVariables false
set_option maxRecDepth 100000
namespace Go.Vt.Pk
open Go Go.Vt Go.Vt.Rm Go.Sort Go.Vt.Srt
abbrev Ws := List Tx
def anyR : List In → List Bool → Int → Int → Bool
  | i :: p, c :: r, a, b => (c && (decide (i.1 = a) || decide (i.1 = b))) || anyR p r a b
  | _, _, _, _ => false
def seedF (p : List In) (r : List Bool) (t : Tx) (k : Nat) : Bool := match p[k]?, r[k]? with
  | some i, some true => decide (i.1 = 1) && hasS i.2.1 t
  | _, _ => false
def seedTo (p : List In) (r : List Bool) (t : Tx) (m : Nat) : List Bool := (List.range p.length).map fun j => decide (0 < j) && (decide (j - 1 < m) && seedF p r t (j - 1))
def seedM (p : List In) (r : List Bool) (t : Tx) : List Bool := seedTo p r t p.length
def start (p : List In) : List Bool := (List.replicate p.length false).set 0 true
noncomputable def runP (p : List In) (fin : Bool) : Ws → Int → List Bool → Int → Bool → Int → Int × Bool × Bool × Int
  | [], place, r, e, f, st => (if anyR p r 6 6 = true then place else e, (f || anyR p r 6 6), (!fin && anyR p r 1 5), st)
  | t :: rest, place, r, e, f, st =>
    if r.count true = 0 then (if anyR p r 6 6 = true then place else e, (f || anyR p r 6 6), false, st)
    else runP p fin rest (place + 1) (clM p false (fin && rest.isEmpty) (seedM p r t)) (if anyR p r 6 6 = true then place else e) (f || anyR p r 6 6) (st + ((clM p false (fin && rest.isEmpty) (seedM p r t)).count true : Int))
noncomputable def first (p : List In) (win : Ws) (at' : Nat) (beg fin : Bool) : List Bool := clM p (beg && decide (at' = 0)) (fin && decide (at' = win.length)) (start p)
noncomputable def longP (p : List In) (win : Ws) (at' : Nat) (beg fin : Bool) : Int × Bool × Bool × Int :=
  runP p fin (win.drop at') (at' : Int) (first p win at' beg fin) 0 false ((first p win at' beg fin).count true : Int)
structure Gd (p : List In) (win : Ws) : Prop where
  gp : GP p
  sets : ∀ i ∈ p, OkS 20000000 i.2.1
  len : win.length ≤ 10000000
  txt : ∀ t ∈ win, t.length ≤ 10000000
theorem any_loop (p : List In) (r : List Bool) (a b : Int) (hp : p.length ≤ 4096) : ∀ (rp preP : List In) (rr preR : List Bool) (n : Nat), p = preP ++ rp → r = preR ++ rr → preP.length = preR.length → rp.length = rr.length → rp.length < n →
    ∃ y, iterN (fun x => any10_s2 x.1 x.2.1 x.2.2.1 x.2.2.2.1 x.2.2.2.2.1) n (p, (r, (a, (b, (((preP.length : Nat) : Int), ()))))) = some y ∧ ((anyR rp rr a b = true ∧ y = .inl (true, ())) ∨ (anyR rp rr a b = false ∧ y = .inr ())) := by
  intro rp
  induction rp with
  | nil =>
    intro preP rr preR n hP hR hl hl2 hn
    obtain ⟨n, rfl⟩ := succ_of hn
    subst hP
    refine ⟨_, iterN_inr (y := .inr ()) (by simp [any10_s2]), .inr ⟨rfl, rfl⟩⟩
  | cons i rp ih =>
    intro preP rr preR n hP hR hl hl2 hn
    simp only [List.length_cons] at hn hl2
    obtain ⟨n, rfl⟩ := succ_of hn
    cases rr with
    | nil => simp at hl2
    | cons c rr =>
      simp only [List.length_cons] at hl2
      have hlt : ((preP.length : Nat) : Int) < (p.length : Int) := by rw [hP]; exact lt_mid
      have hk : lk p ((preP.length : Nat) : Int) = some i := by rw [hP]; exact lk_mid
      have hk2 : lk r ((preP.length : Nat) : Int) = some c := by rw [hR, hl]; exact lk_mid
      have hpl : preP.length ≤ p.length := by rw [hP]; simp
      have ew : IntKind.i64.wrap (((preP.length : Nat) : Int) + 1) = (((preP ++ [i]).length : Nat) : Int) := w_mid (by omega)
      obtain ⟨y, hs, hy⟩ := ih (preP ++ [i]) rr (preR ++ [c]) n (by rw [hP]; simp) (by rw [hR]; simp) (by simp [hl]) (by omega) (by omega)
      have b0 : ∀ z k : Int, (z == k) = decide (z = k) := fun z k => by rw [Bool.eq_iff_iff]; simp
      cases c with
      | false =>
        refine ⟨y, (iterN_inl ?_).trans hs, by simpa [anyR] using hy⟩
        simp only [any10_s2, hlt, decide_true, cond_true, cond_false, Option.bind_some, hk2, ew]
      | true =>
        by_cases ha : i.1 = a
        · refine ⟨_, iterN_inr (y := .inl (true, ())) ?_, .inl ⟨by simp [anyR, ha], rfl⟩⟩
          simp only [any10_s2, hlt, decide_true, cond_true, Option.bind_some, hk2, hk, b0, ha]
        · by_cases hb : i.1 = b
          · refine ⟨_, iterN_inr (y := .inl (true, ())) ?_, .inl ⟨by simp [anyR, hb], rfl⟩⟩
            have da : decide (i.1 = a) = false := decide_eq_false ha
            have db : decide (i.1 = b) = true := decide_eq_true hb
            simp only [any10_s2, hlt, decide_true, cond_true, Option.bind_some, hk2, hk, b0, da, db, cond_false]
          · refine ⟨y, (iterN_inl ?_).trans hs, by simpa [anyR, ha, hb] using hy⟩
            simp only [any10_s2, hlt, decide_true, cond_true, Option.bind_some, hk2, hk, b0, decide_eq_false ha, decide_eq_false hb, cond_false, ew]
theorem any10_is (p : List In) (r : List Bool) (a b : Int) (hp : p.length ≤ 4096) (hl : r.length = p.length) : any10 p r a b = some ((), (anyR p r a b, ())) := by
  obtain ⟨y, h1, h2⟩ := any_loop p r a b hp p [] r [] fuN rfl rfl rfl hl.symm (by have := fuN_le; omega)
  have h1' : iterN (fun x => any10_s2 x.1 x.2.1 x.2.2.1 x.2.2.2.1 x.2.2.2.2.1) fuN (p, (r, (a, (b, ((0 : Int), ()))))) = some y := h1
  simp only [any10, h1', Option.bind_some]
  rcases h2 with ⟨h, rfl⟩ | ⟨h, rfl⟩ <;> simp only [h]
theorem anyR_iff : ∀ (p : List In) (r : List Bool) (a b : Int), anyR p r a b = true ↔ ∃ (k : Nat) (i : In), p[k]? = some i ∧ r[k]? = some true ∧ (i.1 = a ∨ i.1 = b)
  | [], r, a, b => by simp [anyR]
  | i :: p, [], a, b => by simp [anyR]
  | i :: p, c :: r, a, b => by
    simp only [anyR, Bool.or_eq_true, Bool.and_eq_true, decide_eq_true_eq, anyR_iff p r]
    constructor
    · rintro (⟨h1, h2⟩ | ⟨k, j, h1, h2, h3⟩)
      · exact ⟨0, i, rfl, by simp [h1], h2⟩
      · exact ⟨k + 1, j, by simpa using h1, by simpa using h2, h3⟩
    · rintro ⟨k, j, h1, h2, h3⟩
      cases k with
      | zero =>
        simp only [List.getElem?_cons_zero, Option.some.injEq] at h1 h2
        subst h1
        exact .inl ⟨h2, h3⟩
      | succ k => exact .inr ⟨k, j, by simpa using h1, by simpa using h2, h3⟩
theorem count_loop : ∀ (rest pre : List Bool) (acc : Nat) (n : Nat), pre.length + rest.length ≤ 100000 → acc ≤ pre.length → rest.length < n →
    iterN (fun x => count10_s2 x.1 x.2.1 x.2.2.1) n (pre ++ rest, (((acc : Nat) : Int), (((pre.length : Nat) : Int), ()))) = some (((acc + rest.count true : Nat) : Int), ()) := by
  intro rest
  induction rest with
  | nil =>
    intro pre acc n h1 h2 hn
    obtain ⟨n, rfl⟩ := succ_of hn
    refine iterN_inr ?_
    simp [count10_s2]
  | cons c rest ih =>
    intro pre acc n h1 h2 hn
    simp only [List.length_cons] at h1 hn
    obtain ⟨n, rfl⟩ := succ_of hn
    have hlt : ((pre.length : Nat) : Int) < ((pre ++ c :: rest).length : Int) := lt_mid
    have ew : IntKind.i64.wrap (((pre.length : Nat) : Int) + 1) = (((pre ++ [c]).length : Nat) : Int) := w_mid (by omega)
    cases c with
    | false =>
      have hs := ih (pre ++ [false]) acc n (by simp; omega) (by simp; omega) (by omega)
      rw [← app_mid] at hs
      rw [show (false :: rest).count true = rest.count true by simp]
      refine (iterN_inl ?_).trans hs
      simp only [count10_s2, hlt, decide_true, cond_true, cond_false, lk_mid, Option.bind_some, ew]
    | true =>
      have hs := ih (pre ++ [true]) (acc + 1) n (by simp; omega) (by simp; omega) (by omega)
      rw [← app_mid] at hs
      rw [show acc + (true :: rest).count true = acc + 1 + rest.count true by simp; omega]
      have ea : IntKind.i64.wrap (((acc : Nat) : Int) + 1) = ((acc + 1 : Nat) : Int) := by rw [wrap64] <;> omega
      refine (iterN_inl ?_).trans hs
      simp only [count10_s2, hlt, decide_true, cond_true, lk_mid, Option.bind_some, ew, ea]
theorem count10_is (r : List Bool) (h : r.length ≤ 4096) : count10 r = some ((), ((r.count true : Int), ())) := by
  have h1 := count_loop r [] 0 fuN (by simp; omega) (Nat.le_refl _) (by have := fuN_le; omega)
  have h1' : iterN (fun x => count10_s2 x.1 x.2.1 x.2.2.1) fuN (r, ((0 : Int), ((0 : Int), ()))) = some ((r.count true : Int), ()) := by simpa using h1
  simp only [count10, h1', Option.bind_some]
theorem start_length (p : List In) : (start p).length = p.length := by simp [start]
theorem seedM_length (p : List In) (r : List Bool) (t : Tx) : (seedM p r t).length = p.length := by simp [seedM, seedTo]
theorem seedTo_zero (p : List In) (r : List Bool) (t : Tx) : seedTo p r t 0 = List.replicate p.length false := by
  unfold seedTo
  apply List.ext_getElem
  · simp
  · intro i h1 h2; simp
theorem seedTo_succ (p : List In) (r : List Bool) (t : Tx) (m : Nat) : seedTo p r t (m + 1) = if seedF p r t m = true then (seedTo p r t m).set (m + 1) true else seedTo p r t m := by
  apply List.ext_getElem
  · split <;> simp [seedTo]
  · intro j h1 h2
    split
    · rename_i h
      simp only [seedTo, List.getElem_map, List.getElem_range, List.getElem_set]
      split
      · rename_i e; subst e; simp [h]
      · rename_i e
        by_cases h0 : 0 < j
        · by_cases h3 : j - 1 < m
          · simp [h0, h3, show j - 1 < m + 1 by omega]
          · simp [h0, h3, show ¬ j - 1 < m + 1 by omega]
        · simp [h0]
    · rename_i h
      simp only [seedTo, List.getElem_map, List.getElem_range]
      by_cases h0 : 0 < j
      · by_cases h3 : j - 1 < m
        · simp [h0, h3, show j - 1 < m + 1 by omega]
        · by_cases h4 : j - 1 = m
          · rw [h4]; simp [h0, h]
          · simp [h0, h3, show ¬ j - 1 < m + 1 by omega]
      · simp [h0]
theorem over_loop (p : List In) (r : List Bool) (win : Ws) (i : Nat) (t : Tx) (fin : Bool) (hg : Gd p win) (hr : r.length = p.length) (ht : win[i]? = some t) : ∀ (m k n : Nat), k + m = p.length → m < n →
    iterN (fun x => over10_s3 x.1 x.2.1 x.2.2.1 x.2.2.2.1 x.2.2.2.2.1 x.2.2.2.2.2.1 x.2.2.2.2.2.2.1) n (p, (r, (win, (((i : Nat) : Int), (fin, (seedTo p r t k, (((k : Nat) : Int), ()))))))) = some (p, (win, (((i : Nat) : Int), (fin, (seedM p r t, ()))))) := by
  have hpl := hg.gp.len
  intro m
  induction m with
  | zero =>
    intro k n hk hn
    obtain ⟨n, rfl⟩ := succ_of hn
    have hk : k = p.length := by omega
    subst hk
    refine iterN_inr ?_
    simp [over10_s3, seedM]
  | succ m ih =>
    intro k n hk hn
    obtain ⟨n, rfl⟩ := succ_of (Nat.lt_of_le_of_lt (Nat.zero_le _) hn)
    have hlt : ((k : Nat) : Int) < (p.length : Int) := by omega
    have hkp : k < p.length := by omega
    have hkr : k < r.length := by omega
    have l1 : lk p ((k : Nat) : Int) = some p[k] := by rw [lk_nat, List.getElem?_eq_getElem hkp]
    have l2 : lk r ((k : Nat) : Int) = some r[k] := by rw [lk_nat, List.getElem?_eq_getElem hkr]
    have l3 : lk win ((i : Nat) : Int) = some t := by rw [lk_nat]; exact ht
    have ew : IntKind.i64.wrap (((k : Nat) : Int) + 1) = (((k + 1 : Nat)) : Int) := by rw [wrap64] <;> omega
    have hs := ih (k + 1) n (by omega) (by omega)
    have b0 : ∀ z k : Int, (z == k) = decide (z = k) := fun z k => by rw [Bool.eq_iff_iff]; simp
    obtain ⟨a1, a2, a3, a4⟩ := hg.sets p[k] (List.getElem_mem hkp)
    have hh := has6_is p[k].2.1 t a1 a2 (by omega) (hg.txt t (List.mem_of_getElem? ht))
    refine (iterN_inl ?_).trans hs
    rw [seedTo_succ]
    cases hc : r[k] with
    | false =>
      have hf : seedF p r t k = false := by simp [seedF, List.getElem?_eq_getElem hkp, List.getElem?_eq_getElem hkr, hc]
      rw [hc] at l2
      rw [hf, if_neg (by simp)]
      simp only [over10_s3, hlt, decide_true, cond_true, cond_false, Option.bind_some, l2, ew]
    | true =>
      rw [hc] at l2
      by_cases h1 : p[k].1 = 1
      · cases hh' : hasS p[k].2.1 t with
        | false =>
          have hf : seedF p r t k = false := by simp [seedF, List.getElem?_eq_getElem hkp, List.getElem?_eq_getElem hkr, hc, hh']
          rw [hf, if_neg (by simp)]
          simp only [over10_s3, hlt, decide_true, cond_true, cond_false, Option.bind_some, l2, l1, l3, b0, h1, hh, hh', ew]
        | true =>
          have hf : seedF p r t k = true := by simp [seedF, List.getElem?_eq_getElem hkp, List.getElem?_eq_getElem hkr, hc, hh', h1]
          have hone := hg.gp.one _ _ l1 h1
          obtain ⟨z, hz⟩ := lk_in (l := seedTo p r t k) (v := ((k + 1 : Nat) : Int)) (by omega) (by simp [seedTo]; omega)
          rw [hf, if_pos rfl]
          simp only [over10_s3, hlt, decide_true, cond_true, Option.bind_some, l2, l1, l3, b0, h1, hh, hh', ew, hz, Int.toNat_natCast]
      · have hf : seedF p r t k = false := by simp [seedF, List.getElem?_eq_getElem hkp, List.getElem?_eq_getElem hkr, hc, h1]
        rw [hf, if_neg (by simp)]
        simp only [over10_s3, hlt, decide_true, cond_true, cond_false, Option.bind_some, l2, l1, b0, decide_eq_false h1, ew]
theorem over10_is (p : List In) (r : List Bool) (win : Ws) (i : Nat) (t : Tx) (fin : Bool) (hg : Gd p win) (hr : r.length = p.length) (ht : win[i]? = some t) :
    over10 p r win (i : Int) fin = some ((), (clM p false (fin && decide (i + 1 = win.length)) (seedM p r t), ())) := by
  have h1 := over_loop p r win i t fin hg hr ht p.length 0 fuN (by omega) (by have := hg.gp.len; have := fuN_le; omega)
  have h1' : iterN (fun x => over10_s3 x.1 x.2.1 x.2.2.1 x.2.2.2.1 x.2.2.2.2.1 x.2.2.2.2.2.1 x.2.2.2.2.2.2.1) fuN (p, (r, (win, (((i : Nat) : Int), (fin, (List.replicate (Int.toNat (p.length : Int)) false, ((0 : Int), ()))))))) = some (p, (win, (((i : Nat) : Int), (fin, (seedM p r t, ()))))) := by
    have := h1; rw [seedTo_zero] at this; exact this
  have hlt : i < win.length := (List.getElem?_eq_some_iff.1 ht).1
  have hpl := hg.gp.len
  have hwl := hg.len
  have e1 : (IntKind.i64.wrap (((i : Nat) : Int) + 1) == (win.length : Int)) = decide (i + 1 = win.length) := by
    rw [wrap64 (by omega) (by omega), Bool.eq_iff_iff]; simp; omega
  simp only [over10, mkOk1 (show p.length ≤ 1000000 by omega), cond_true, h1', Option.bind_some]
  cases fin with
  | true => simp only [cond_true, e1, mark8_is p _ false _ hg.gp (seedM_length p r t), Option.bind_some, Bool.true_and]
  | false => simp only [cond_false, mark8_is p _ false _ hg.gp (seedM_length p r t), Option.bind_some, Bool.false_and]
theorem begin10_is (p : List In) (win : Ws) (at' : Nat) (beg fin : Bool) (hp : GP p) : begin10 p (win.length : Int) (at' : Int) beg fin = some ((), (first p win at' beg fin, ())) := by
  have hpl := hp.len; have hpos := hp.pos
  obtain ⟨z, hz⟩ := lk_in (l := List.replicate (Int.toNat (p.length : Int)) false) (v := 0) (Int.le_refl _) (by simp; omega)
  have e0 : (List.replicate (Int.toNat (p.length : Int)) false).set (0 : Int).toNat true = start p := rfl
  have e1 : (((at' : Nat) : Int) == 0) = decide (at' = 0) := by rw [Bool.eq_iff_iff]; simp
  have e2 : (((at' : Nat) : Int) == (win.length : Int)) = decide (at' = win.length) := by rw [Bool.eq_iff_iff]; simp; omega
  simp only [begin10, mkOk1 (show p.length ≤ 1000000 by omega), cond_true, hz, Option.bind_some, e0, e1, e2]
  cases beg <;> cases fin <;> simp only [cond_true, cond_false, mark8_is p (start p) _ _ hp (start_length p), Option.bind_some, first, Bool.true_and, Bool.false_and]
theorem any_none {p : List In} {r : List Bool} (h : r.count true = 0) (a b : Int) : anyR p r a b = false := by
  cases hc : anyR p r a b with
  | false => rfl
  | true =>
    obtain ⟨k, i, _, h2, _⟩ := (anyR_iff p r a b).1 hc
    have := List.count_pos_iff.2 (List.mem_of_getElem? h2)
    omega
theorem long_loop (p : List In) (win : Ws) (fin : Bool) (hg : Gd p win) : ∀ (rest : Ws) (place : Nat) (r : List Bool) (e : Int) (f : Bool) (st : Nat) (n : Nat), win.drop place = rest → place ≤ win.length → r.length = p.length → st ≤ 5000 * (place + 1) → rest.length < n →
    ∃ r' e' f' st', iterN (fun x => long10_s5 x.1 x.2.1 x.2.2.1 x.2.2.2.1 x.2.2.2.2.1 x.2.2.2.2.2.1 x.2.2.2.2.2.2.1 x.2.2.2.2.2.2.2.1) n (p, (win, (fin, (r, (e, (f, (((st : Nat) : Int), (((place : Nat) : Int), ())))))))) = some (p, (fin, (r', (e', (f', (st', ())))))) ∧
      r'.length = p.length ∧ runP p fin rest (place : Int) r e f (st : Int) = (e', f', (!fin && anyR p r' 1 5), st') := by
  have hpl := hg.gp.len
  have hwl := hg.len
  intro rest
  induction rest with
  | nil =>
    intro place r e f st n hd hpl' hr hst hn
    obtain ⟨n, rfl⟩ := succ_of hn
    have hpe : place = win.length := by
      have := congrArg List.length hd; simp at this; omega
    have ha := any10_is p r 6 6 hpl hr
    have b1 : (((place : Nat) : Int) == (win.length : Int)) = true := by rw [hpe]; simp
    refine ⟨r, if anyR p r 6 6 = true then (place : Int) else e, (f || anyR p r 6 6), (st : Int), iterN_inr ?_, hr, rfl⟩
    cases hc : anyR p r 6 6 with
    | true =>
      rw [hc] at ha
      simp only [long10_s5, ha, cond_true, Option.bind_some, b1, Bool.or_true, if_true]
    | false =>
      rw [hc] at ha
      simp only [long10_s5, ha, cond_true, cond_false, Option.bind_some, b1, Bool.or_false]
      rfl
  | cons t rest ih =>
    intro place r e f st n hd hpl' hr hst hn
    simp only [List.length_cons] at hn
    obtain ⟨n, rfl⟩ := succ_of hn
    have ht : win[place]? = some t := by
      have := congrArg (fun l => l[0]?) hd; simpa using this
    have hlt : place < win.length := (List.getElem?_eq_some_iff.1 ht).1
    have hd2 : win.drop (place + 1) = rest := by
      rw [← List.drop_drop, hd]; rfl
    have hemp : decide (place + 1 = win.length) = rest.isEmpty := by
      rw [← hd2, Bool.eq_iff_iff]; simp; omega
    have ha := any10_is p r 6 6 hpl hr
    have hc10 := count10_is r (by omega)
    have b1 : (((place : Nat) : Int) == (win.length : Int)) = false := by simp; omega
    have ho := over10_is p r win place t fin hg hr ht
    rw [hemp] at ho
    have hcl := clM_length p false (fin && rest.isEmpty) (seedM p r t)
    have hc2 := count10_is (clM p false (fin && rest.isEmpty) (seedM p r t)) (by omega)
    by_cases hz : r.count true = 0
    · have hb : ((r.count true : Int) == 0) = true := by rw [hz]; rfl
      have hany := any_none (p := p) hz
      refine ⟨r, e, f, (st : Int), iterN_inr ?_, hr, ?_⟩
      · rw [hany 6 6] at ha
        simp only [long10_s5, ha, cond_false, Option.bind_some, b1, hc10, hb, cond_true]
      · simp only [runP, hz, if_true, hany, Bool.or_false, Bool.and_false, Bool.false_eq_true, if_false]
    · have hb : ((r.count true : Int) == 0) = false := by simp; omega
      have hcnt : (clM p false (fin && rest.isEmpty) (seedM p r t)).count true ≤ 4096 := Nat.le_trans List.count_le_length (by omega)
      have ew : IntKind.i64.wrap (((place : Nat) : Int) + 1) = (((place + 1 : Nat)) : Int) := by rw [wrap64] <;> omega
      have es : IntKind.i64.wrap (((st : Nat) : Int) + ((clM p false (fin && rest.isEmpty) (seedM p r t)).count true : Int)) = ((st + (clM p false (fin && rest.isEmpty) (seedM p r t)).count true : Nat) : Int) := by
        rw [wrap64] <;> omega
      obtain ⟨r', e', f', st', h1, h2, h3⟩ := ih (place + 1) (clM p false (fin && rest.isEmpty) (seedM p r t)) (if anyR p r 6 6 = true then (place : Int) else e) (f || anyR p r 6 6) (st + (clM p false (fin && rest.isEmpty) (seedM p r t)).count true) n hd2 (by omega) hcl (by omega) (by omega)
      refine ⟨r', e', f', st', (iterN_inl ?_).trans h1, h2, ?_⟩
      · cases hc : anyR p r 6 6 with
        | true =>
          rw [hc] at ha
          simp only [long10_s5, ha, cond_true, cond_false, Option.bind_some, b1, hc10, hb, ho, hc2, ew, es, Bool.or_true, if_true]
        | false =>
          rw [hc] at ha
          simp only [long10_s5, ha, cond_false, Option.bind_some, b1, hc10, hb, ho, hc2, ew, es, Bool.or_false]
          rfl
      · rw [← h3]
        simp only [runP, if_neg hz]
        norm_cast
theorem long10_is (p : List In) (win : Ws) (at' : Nat) (beg fin : Bool) (hg : Gd p win) (ha : at' ≤ win.length) : long10 p win (at' : Int) beg fin = some ((), longP p win at' beg fin |>.1, (longP p win at' beg fin |>.2.1), (longP p win at' beg fin |>.2.2.1), (longP p win at' beg fin |>.2.2.2), ()) := by
  have hpl := hg.gp.len
  have hwl := hg.len
  have h0 := begin10_is p win at' beg fin hg.gp
  have hfl : (first p win at' beg fin).length = p.length := clM_length _ _ _ _
  have h1 := count10_is (first p win at' beg fin) (by omega)
  have hcnt : (first p win at' beg fin).count true ≤ 4096 := Nat.le_trans List.count_le_length (by omega)
  obtain ⟨r', e', f', st', h2, h3, h4⟩ := long_loop p win fin hg (win.drop at') at' (first p win at' beg fin) 0 false ((first p win at' beg fin).count true) fuN rfl ha hfl (by omega) (by have := fuN_le; simp; omega)
  have hlp : longP p win at' beg fin = (e', f', (!fin && anyR p r' 1 5), st') := h4
  simp only [long10, h0, h1, h2, Option.bind_some, hlp]
  cases fin with
  | true => simp only [Bool.not_true, cond_false, Bool.false_and]
  | false => simp only [Bool.not_false, cond_true, any10_is p r' 1 5 hpl h3, Option.bind_some, Bool.true_and]
end Go.Vt.Pk
