/- What is reached: the reference's marks. -/
import Derived.Test.YtfmhkcidechgdaaGreatVtPp1
set_option linter.unusedVariables false
set_option maxRecDepth 100000
namespace Go.Vt.Pk
open Go Go.Vt Go.Vt.Rm Go.Sort Go.Vt.Srt
def nx (p : List In) (b e : Bool) (v : Int) : List Int := match lk p v with
  | none => []
  | some i => if i.1 = 2 then [i.2.2.1, i.2.2.2] else if i.1 = 3 then [i.2.2.1] else if i.1 = 4 then (if b = true then [v + 1] else []) else if i.1 = 5 then (if e = true then [v + 1] else []) else []
inductive Cl (p : List In) (b e : Bool) (S : Int → Prop) : Int → Prop where
  | base {v : Int} : S v → Cl p b e S v
  | step {v u : Int} : Cl p b e S v → u ∈ nx p b e v → Cl p b e S u
def inN (p : List In) (v : Int) : Prop := 0 ≤ v ∧ v < (p.length : Int)
structure GP (p : List In) : Prop where
  len : p.length ≤ 4096
  pos : 0 < p.length
  rng : ∀ b e v, ∀ u ∈ nx p b e v, inN p u
  one : ∀ v i, lk p v = some i → i.1 = 1 → v + 1 < (p.length : Int)
theorem lk_some' {α : Type} {l : List α} {v : Int} {x : α} (h : lk l v = some x) : 0 ≤ v ∧ v < (l.length : Int) ∧ l[v.toNat]? = some x := by
  unfold lk at h
  split at h
  · rename_i h0
    refine ⟨h0, ?_, h⟩
    have : v.toNat < l.length := by
      rcases Nat.lt_or_ge v.toNat l.length with h1 | h1
      · exact h1
      · rw [List.getElem?_eq_none h1] at h; cases h
    omega
  · cases h
theorem lk_in {α : Type} {l : List α} {v : Int} (h0 : 0 ≤ v) (h1 : v < (l.length : Int)) : ∃ x, lk l v = some x := by
  unfold lk
  rw [if_pos h0]
  exact ⟨_, List.getElem?_eq_getElem (by omega)⟩
theorem lk_nat {α : Type} {l : List α} (k : Nat) : lk l ((k : Nat) : Int) = l[k]? := by
  unfold lk
  rw [if_pos (by omega)]
  simp
theorem mayP_gp {p : List In} (h : mayP p = true) : GP p := by
  unfold mayP at h
  cases hl : p.getLast? with
  | none => rw [hl] at h; cases h
  | some z =>
    rw [hl] at h
    simp only [Bool.and_eq_true, decide_eq_true_eq, List.all_eq_true] at h
    obtain ⟨h1, h2, h3⟩ := h
    have hne : p ≠ [] := fun e => by subst e; cases hl
    have hpos := List.length_pos_iff.2 hne
    have last : ∀ v i, lk p v = some i → i.1 ≠ 6 → v + 1 < (p.length : Int) := fun v i hv hi => by
      obtain ⟨a1, a2, a3⟩ := lk_some' hv
      rcases Int.lt_or_eq_of_le (show v + 1 ≤ (p.length : Int) by omega) with h | h
      · exact h
      · have e : v.toNat = p.length - 1 := by omega
        rw [List.getLast?_eq_getElem?, ← e, a3] at hl
        cases hl
        exact absurd h2 hi
    refine ⟨h1, hpos, fun b e v u hu => ?_, fun v i hv hi => last v i hv (by omega)⟩
    unfold nx at hu
    split at hu
    · cases hu
    · rename_i i hv
      obtain ⟨a1, a2, a3⟩ := lk_some' hv
      have ho := h3 i (List.mem_of_getElem? a3)
      unfold okIn at ho
      split at hu
      · rename_i e2
        rw [if_neg (by omega), if_pos e2] at ho
        simp only [Bool.and_eq_true, decide_eq_true_eq] at ho
        obtain ⟨_, ⟨h4, h5⟩, h6, h7⟩ := ho
        rcases List.mem_cons.1 hu with rfl | hu
        · exact ⟨h4, h5⟩
        · rcases List.mem_cons.1 hu with rfl | hu
          · exact ⟨h6, h7⟩
          · cases hu
      · rename_i n2
        split at hu
        · rename_i e3
          rw [if_neg (by omega), if_neg n2, if_pos e3] at ho
          simp only [Bool.and_eq_true, decide_eq_true_eq] at ho
          obtain ⟨_, ⟨h4, h5⟩, _⟩ := ho
          rcases List.mem_cons.1 hu with rfl | hu
          · exact ⟨h4, h5⟩
          · cases hu
        · split at hu
          · rename_i e4
            split at hu
            · rcases List.mem_cons.1 hu with rfl | hu
              · exact ⟨by omega, last v i hv (by omega)⟩
              · cases hu
            · cases hu
          · split at hu
            · rename_i e5
              split at hu
              · rcases List.mem_cons.1 hu with rfl | hu
                · exact ⟨by omega, last v i hv (by omega)⟩
                · cases hu
              · cases hu
            · cases hu
theorem Cl.inN {p : List In} {b e : Bool} {S : Int → Prop} (hp : GP p) (hS : ∀ v, S v → Pk.inN p v) {v : Int} (h : Cl p b e S v) : Pk.inN p v := by
  cases h with
  | base h => exact hS v h
  | step _ h => exact hp.rng _ _ _ _ h
theorem Cl.least {p : List In} {b e : Bool} {S T : Int → Prop} (h0 : ∀ v, S v → T v) (h1 : ∀ v, T v → ∀ u ∈ nx p b e v, T u) {v : Int} (h : Cl p b e S v) : T v := by
  induction h with
  | base h => exact h0 _ h
  | step _ hu ih => exact h1 _ ih _ hu
def Mk (r : List Bool) (v : Int) : Prop := lk r v = some true
theorem Mk.iff_nat {r : List Bool} {v : Int} : Mk r v ↔ 0 ≤ v ∧ r[v.toNat]? = some true := by
  unfold Mk lk
  split
  · simp [*]
  · simp [*]
theorem marks_ext {r s : List Bool} (hl : r.length = s.length) (h : ∀ v, Mk r v ↔ Mk s v) : r = s := by
  apply List.ext_getElem hl
  intro i h1 h2
  have := h (i : Int)
  unfold Mk at this
  rw [lk_nat, lk_nat, List.getElem?_eq_getElem h1, List.getElem?_eq_getElem h2] at this
  simp only [Option.some.injEq] at this
  cases h3 : r[i] <;> cases h4 : s[i] <;> simp_all
theorem Mk.set {r : List Bool} {u : Int} (h0 : 0 ≤ u) (h1 : u < (r.length : Int)) (v : Int) : Mk (r.set u.toNat true) v ↔ v = u ∨ Mk r v := by
  simp only [Mk.iff_nat, List.getElem?_set]
  constructor
  · rintro ⟨h2, h3⟩
    split at h3
    · exact .inl (by omega)
    · exact .inr ⟨h2, h3⟩
  · rintro (rfl | ⟨h2, h3⟩)
    · exact ⟨h0, by simp; omega⟩
    · refine ⟨h2, ?_⟩
      split
      · rename_i e; rw [← e] at h3; simp; omega
      · exact h3
def tds (a : List Bool) (k : Nat) : List Int := ((List.range k).filter fun j => a[j]? == some true).map fun j => ((j : Nat) : Int)
theorem tds_succ (a : List Bool) (k : Nat) : tds a (k + 1) = tds a k ++ (if a[k]? = some true then [((k : Nat) : Int)] else []) := by
  unfold tds
  rw [List.range_succ, List.filter_append, List.map_append]
  congr 1
  by_cases h : a[k]? = some true <;> simp [h]
theorem tds_length (a : List Bool) (k : Nat) : (tds a k).length ≤ k := by
  unfold tds
  rw [List.length_map]
  have := List.length_filter_le (fun j => a[j]? == some true) (List.range k)
  simpa using this
theorem tds_mem (a : List Bool) (v : Int) : v ∈ tds a a.length ↔ Mk a v := by
  unfold tds
  simp only [List.mem_map, List.mem_filter, List.mem_range, beq_iff_eq, Mk.iff_nat]
  constructor
  · rintro ⟨j, ⟨h1, h2⟩, rfl⟩
    exact ⟨by omega, by simpa using h2⟩
  · rintro ⟨h1, h2⟩
    have : v.toNat < a.length := by
      rcases Nat.lt_or_ge v.toNat a.length with h | h
      · exact h
      · rw [List.getElem?_eq_none h] at h2; cases h2
    exact ⟨v.toNat, ⟨this, h2⟩, by omega⟩
theorem mark_init (p : List In) (a : List Bool) (b e : Bool) (hl : a.length = p.length) (hp : p.length ≤ 4096) : ∀ (m k n : Nat), k + m = p.length → m < n →
    iterN (fun x => mark8_s3 x.1 x.2.1 x.2.2.1 x.2.2.2.1 x.2.2.2.2.1 x.2.2.2.2.2.1 x.2.2.2.2.2.2.1) n (p, (a, (b, (e, (a.take k ++ List.replicate m false, (tds a k, (((k : Nat) : Int), ()))))))) = some (p, (b, (e, (a, (tds a a.length, ()))))) := by
  intro m
  induction m with
  | zero =>
    intro k n hk hn
    obtain ⟨n, rfl⟩ := succ_of hn
    have hk : k = a.length := by omega
    subst hk
    refine iterN_inr ?_
    have : ¬ ((a.length : Nat) : Int) < (p.length : Int) := by omega
    simp only [mark8_s3, this, decide_false, cond_false, Option.bind_some, List.take_length, List.replicate_zero, List.append_nil]
  | succ m ih =>
    intro k n hk hn
    obtain ⟨n, rfl⟩ := succ_of (Nat.lt_of_le_of_lt (Nat.zero_le _) hn)
    have hlt : ((k : Nat) : Int) < (p.length : Int) := by omega
    have hka : k < a.length := by omega
    have ht : (a.take k).length = k := by simp; omega
    have l1 : lk a ((k : Nat) : Int) = some a[k] := by rw [lk_nat, List.getElem?_eq_getElem hka]
    have l2 : lk (a.take k ++ List.replicate (m + 1) false) ((k : Nat) : Int) = some false := by
      rw [List.replicate_succ]
      have := lk_mid (pre := a.take k) (rest := List.replicate m false) (x := false)
      rwa [ht] at this
    have s1 : (a.take k ++ List.replicate (m + 1) false).set ((k : Nat) : Int).toNat a[k] = a.take (k + 1) ++ List.replicate m false := by
      rw [Int.toNat_natCast, List.replicate_succ]
      have := set_app (a.take k) (List.replicate m false) false a[k]
      rw [ht] at this
      rw [this, ← List.take_append_getElem hka]
      simp only [List.append_assoc, List.cons_append, List.nil_append]
    have ew : IntKind.i64.wrap (((k : Nat) : Int) + 1) = (((k + 1 : Nat)) : Int) := by rw [wrap64] <;> omega
    have hs := ih (k + 1) n (by omega) (by omega)
    refine (iterN_inl ?_).trans hs
    have hlen := tds_length a k
    cases hc : a[k] with
    | true =>
      have e1 : tds a (k + 1) = tds a k ++ [((k : Nat) : Int)] := by rw [tds_succ, if_pos (by rw [List.getElem?_eq_getElem hka, hc])]
      have hr : roomOk ((tds a k).length + [((k : Nat) : Int)].length) 8 = true := roomN (by omega) (by simp; omega)
      rw [hc] at l1 s1
      simp only [mark8_s3, hlt, decide_true, cond_true, Option.bind_some, l1, l2, hr, s1, ew, e1]
    | false =>
      have e1 : tds a (k + 1) = tds a k := by rw [tds_succ, if_neg (by rw [List.getElem?_eq_getElem hka, hc]; simp), List.append_nil]
      rw [hc] at l1 s1
      simp only [mark8_s3, hlt, decide_true, cond_true, cond_false, Option.bind_some, l1, l2, s1, ew, e1]
def psh (st : List Bool × List Int) (u : Int) : List Bool × List Int := if lk st.1 u = some true then st else (st.1.set u.toNat true, st.2 ++ [u])
theorem psh_loop (p : List In) (b e : Bool) (nxt : List Int) (hn' : nxt.length ≤ 10) (N : Nat) (hu : ∀ u ∈ nxt, 0 ≤ u ∧ u < (N : Int)) : ∀ (rest pre : List Int) (out : List Bool) (todo : List Int) (n : Nat), nxt = pre ++ rest → out.length = N → todo.length + rest.length ≤ 1000000 → rest.length < n →
    iterN (fun x => mark8_s29 x.1 x.2.1 x.2.2.1 x.2.2.2.1 x.2.2.2.2.1 x.2.2.2.2.2.1 x.2.2.2.2.2.2.1) n (p, (b, (e, (out, (todo, (nxt, (((pre.length : Nat) : Int), ()))))))) = some (p, (b, (e, ((rest.foldl psh (out, todo)).1, ((rest.foldl psh (out, todo)).2, ()))))) := by
  intro rest
  induction rest with
  | nil =>
    intro pre out todo n hp ho ht hn
    obtain ⟨n, rfl⟩ := succ_of hn
    refine iterN_inr ?_
    subst hp
    simp [mark8_s29]
  | cons u rest ih =>
    intro pre out todo n hp ho ht hn
    simp only [List.length_cons] at hn ht
    obtain ⟨n, rfl⟩ := succ_of hn
    have hlt : ((pre.length : Nat) : Int) < (nxt.length : Int) := by rw [hp]; exact lt_mid
    have hk : lk nxt ((pre.length : Nat) : Int) = some u := by rw [hp]; exact lk_mid
    have hpl : pre.length ≤ nxt.length := by rw [hp]; simp
    have ew : IntKind.i64.wrap (((pre.length : Nat) : Int) + 1) = (((pre ++ [u]).length : Nat) : Int) := w_mid (by omega)
    obtain ⟨u0, u1⟩ := hu u (by rw [hp]; simp)
    obtain ⟨c, hc⟩ := lk_in (l := out) u0 (by rw [ho]; exact u1)
    cases c with
    | true =>
      have hs := ih (pre ++ [u]) out todo n (by rw [hp]; simp) ho (by omega) (by omega)
      have e1 : psh (out, todo) u = (out, todo) := by simp only [psh]; rw [if_pos hc]
      rw [List.foldl_cons, e1]
      refine (iterN_inl ?_).trans hs
      simp only [mark8_s29, hlt, decide_true, cond_true, cond_false, Option.bind_some, hk, hc, Bool.not_true, ew]
    | false =>
      have hs := ih (pre ++ [u]) (out.set u.toNat true) (todo ++ [u]) n (by rw [hp]; simp) (by simpa using ho) (by simp; omega) (by omega)
      have e1 : psh (out, todo) u = (out.set u.toNat true, todo ++ [u]) := by simp only [psh]; rw [if_neg (by rw [hc]; simp)]
      have hr : roomOk (todo.length + [u].length) 8 = true := roomN (by omega) (by simp; omega)
      rw [List.foldl_cons, e1]
      refine (iterN_inl ?_).trans hs
      simp only [mark8_s29, hlt, decide_true, cond_true, Option.bind_some, hk, hc, Bool.not_false, hr, ew]
theorem count_set_false {r : List Bool} {u : Int} (h : lk r u = some false) : (r.set u.toNat true).count false + 1 = r.count false := by
  obtain ⟨h0, h1, h2⟩ := lk_some' h
  have hlt : u.toNat < r.length := by omega
  have h3 : r[u.toNat] = false := by rw [List.getElem?_eq_getElem hlt] at h2; simpa using h2
  have hpos : 0 < r.count false := List.count_pos_iff.2 (by rw [← h3]; exact List.getElem_mem hlt)
  rw [List.count_set hlt, h3]
  simp
  omega
structure MInv (p : List In) (b e : Bool) (S : Int → Prop) (N : Nat) (out : List Bool) (todo : List Int) : Prop where
  len : out.length = N
  tdo : ∀ v ∈ todo, Mk out v
  clos : ∀ v, Mk out v → v ∈ todo ∨ ∀ u ∈ nx p b e v, Mk out u
  sub : ∀ v, Mk out v → Cl p b e S v
  base : ∀ v, S v → Mk out v
theorem psh_fold (N : Nat) : ∀ (rest : List Int) (out : List Bool) (todo : List Int), out.length = N → (∀ u ∈ rest, 0 ≤ u ∧ u < (N : Int)) →
    (rest.foldl psh (out, todo)).1.length = N ∧ (∀ v, Mk (rest.foldl psh (out, todo)).1 v ↔ Mk out v ∨ v ∈ rest) ∧ (∀ v, v ∈ (rest.foldl psh (out, todo)).2 ↔ v ∈ todo ∨ (v ∈ rest ∧ ¬ Mk out v)) ∧
    (rest.foldl psh (out, todo)).2.length + 2 * (rest.foldl psh (out, todo)).1.count false ≤ todo.length + 2 * out.count false
  | [], out, todo, ho, _ => ⟨ho, fun v => by simp, fun v => by simp, Nat.le_refl _⟩
  | u :: rest, out, todo, ho, hu => by
    obtain ⟨u0, u1⟩ := hu u (by simp)
    rw [List.foldl_cons]
    by_cases hc : lk out u = some true
    · have e1 : psh (out, todo) u = (out, todo) := by simp only [psh]; rw [if_pos hc]
      rw [e1]
      obtain ⟨h1, h2, h3, h4⟩ := psh_fold N rest out todo ho fun w hw => hu w (by simp [hw])
      refine ⟨h1, fun v => ?_, fun v => ?_, h4⟩
      · rw [h2, List.mem_cons]
        constructor
        · rintro (h | h)
          · exact .inl h
          · exact .inr (.inr h)
        · rintro (h | rfl | h)
          · exact .inl h
          · exact .inl hc
          · exact .inr h
      · rw [h3, List.mem_cons]
        constructor
        · rintro (h | ⟨h, h'⟩)
          · exact .inl h
          · exact .inr ⟨.inr h, h'⟩
        · rintro (h | ⟨rfl | h, h'⟩)
          · exact .inl h
          · exact absurd hc h'
          · exact .inr ⟨h, h'⟩
    · have e1 : psh (out, todo) u = (out.set u.toNat true, todo ++ [u]) := by simp only [psh]; rw [if_neg hc]
      obtain ⟨c, hc'⟩ := lk_in (l := out) u0 (by rw [ho]; exact u1)
      have hf : lk out u = some false := by cases c with
        | true => exact absurd hc' hc
        | false => exact hc'
      rw [e1]
      obtain ⟨h1, h2, h3, h4⟩ := psh_fold N rest (out.set u.toNat true) (todo ++ [u]) (by simpa using ho) fun w hw => hu w (by simp [hw])
      have hset := Mk.set (r := out) u0 (by rw [ho]; exact u1)
      have hcnt := count_set_false hf
      refine ⟨h1, fun v => ?_, fun v => ?_, by simp only [List.length_append, List.length_cons, List.length_nil] at h4 ⊢; omega⟩
      · rw [h2, hset, List.mem_cons]
        constructor
        · rintro ((h | h) | h)
          · exact .inr (.inl h)
          · exact .inl h
          · exact .inr (.inr h)
        · rintro (h | h | h)
          · exact .inl (.inr h)
          · exact .inl (.inl h)
          · exact .inr h
      · rw [h3, hset, List.mem_append, List.mem_singleton, List.mem_cons]
        by_cases e : v = u
        · subst e
          constructor
          · rintro _; exact .inr ⟨.inl rfl, hc⟩
          · rintro _; exact .inl (.inr rfl)
        · constructor
          · rintro ((h | h) | ⟨h, h'⟩)
            · exact .inl h
            · exact absurd h e
            · exact .inr ⟨.inr h, fun hm => h' (.inr hm)⟩
          · rintro (h | ⟨h | h, h'⟩)
            · exact .inl (.inl h)
            · exact absurd h e
            · exact .inr ⟨h, fun hm => hm.elim e h'⟩
theorem MInv.round {p : List In} {b e : Bool} {S : Int → Prop} {out : List Bool} {T : List Int} {x : Int} (hp : GP p) (h : MInv p b e S p.length out (T ++ [x])) :
    MInv p b e S p.length ((nx p b e x).foldl psh (out, T)).1 ((nx p b e x).foldl psh (out, T)).2 := by
  obtain ⟨h1, h2, h3, _⟩ := psh_fold p.length (nx p b e x) out T h.len fun u hu => hp.rng b e x u hu
  refine ⟨h1, fun v hv => ?_, fun v hv => ?_, fun v hv => ?_, fun v hv => (h2 v).2 (.inl (h.base v hv))⟩
  · rcases (h3 v).1 hv with hv | ⟨hv, _⟩
    · exact (h2 v).2 (.inl (h.tdo v (by simp [hv])))
    · exact (h2 v).2 (.inr hv)
  · rcases (h2 v).1 hv with hm | hm
    · rcases h.clos v hm with hv | hv
      · rcases List.mem_append.1 hv with hv | hv
        · exact .inl ((h3 v).2 (.inl hv))
        · simp only [List.mem_singleton] at hv
          subst hv
          exact .inr fun u hu => (h2 u).2 (.inr hu)
      · exact .inr fun u hu => (h2 u).2 (.inl (hv u hu))
    · by_cases hm' : Mk out v
      · rcases h.clos v hm' with hv | hv
        · rcases List.mem_append.1 hv with hv | hv
          · exact .inl ((h3 v).2 (.inl hv))
          · simp only [List.mem_singleton] at hv
            subst hv
            exact .inr fun u hu => (h2 u).2 (.inr hu)
        · exact .inr fun u hu => (h2 u).2 (.inl (hv u hu))
      · exact .inl ((h3 v).2 (.inr ⟨hm, hm'⟩))
  · rcases (h2 v).1 hv with hm | hm
    · exact h.sub v hm
    · exact .step (h.sub x (h.tdo x (by simp))) hm
theorem lk_last {α : Type} {T : List α} {x : α} (h : T.length ≤ 100000000) : IntKind.i64.wrap (((T ++ [x]).length : Int) - 1) = ((T.length : Nat) : Int) := by
  rw [wrap64] <;> simp <;> omega
theorem mark_step (p : List In) (b e : Bool) (hp : GP p) (out : List Bool) (T : List Int) (x : Int) (ho : out.length = p.length) (hx : inN p x) (hT : T.length ≤ 100000) :
    mark8_s15 p b e out (T ++ [x]) = some (.inl (p, (b, (e, (((nx p b e x).foldl psh (out, T)).1, (((nx p b e x).foldl psh (out, T)).2, ())))))) := by
  have hgt : (((T ++ [x]).length : Int) > 0) := by simp only [List.length_append, List.length_cons, List.length_nil]; omega
  have ew := lk_last (T := T) (x := x) (by omega)
  have hl : lk (T ++ [x]) ((T.length : Nat) : Int) = some x := by
    have := lk_mid (pre := T) (rest := []) (x := x); simpa using this
  have hin : inB (0 : Int) ((T.length : Nat) : Int) (T ++ [x]).length = true := by
    simp only [inB, Bool.and_eq_true, decide_eq_true_eq, List.length_append, List.length_cons, List.length_nil]; omega
  have hcut : ((T ++ [x]).drop (0 : Int).toNat).take (((T.length : Nat) : Int) - (0 : Int)).toNat = T := by simp
  obtain ⟨i, hi⟩ := lk_in (l := p) hx.1 hx.2
  have hw : IntKind.i64.wrap (x + 1) = x + 1 := by have := hp.len; have := hx.1; have := hx.2; rw [wrap64] <;> omega
  have b0 : ∀ z k : Int, (z == k) = decide (z = k) := fun z k => by rw [Bool.eq_iff_iff]; simp
  have hloop : ∀ (nxt : List Int), nxt = nx p b e x → iterN (fun x => mark8_s29 x.1 x.2.1 x.2.2.1 x.2.2.2.1 x.2.2.2.2.1 x.2.2.2.2.2.1 x.2.2.2.2.2.2.1) fuN (p, (b, (e, (out, (T, (nxt, ((0 : Int), ()))))))) = some (p, (b, (e, (((nx p b e x).foldl psh (out, T)).1, (((nx p b e x).foldl psh (out, T)).2, ()))))) := by
    intro nxt hn
    subst hn
    have hlen : (nx p b e x).length ≤ 2 := by
      unfold nx
      split
      · simp
      · split
        · simp
        · split
          · simp
          · split
            · split <;> simp
            · split
              · split <;> simp
              · simp
    exact psh_loop p b e (nx p b e x) (by omega) p.length (fun u hu => hp.rng b e x u hu) (nx p b e x) [] out T fuN (by simp) ho (by omega) (by have := fuN_le; omega)
  simp only [mark8_s15, hgt, decide_true, cond_true, Option.bind_some, ew, hl, hin, hcut, hi, b0, hw]
  have hnx : nx p b e x = if i.1 = 2 then [i.2.2.1, i.2.2.2] else if i.1 = 3 then [i.2.2.1] else if i.1 = 4 then (if b = true then [x + 1] else []) else if i.1 = 5 then (if e = true then [x + 1] else []) else [] := by
    unfold nx; rw [hi]
  by_cases h2 : i.1 = 2
  · have := hloop [i.2.2.1, i.2.2.2] (by rw [hnx, if_pos h2])
    simp only [h2, decide_true, cond_true, Option.bind_some, this]
  by_cases h3 : i.1 = 3
  · have := hloop [i.2.2.1] (by rw [hnx, if_neg h2, if_pos h3])
    simp only [h3, show decide ((3 : Int) = 2) = false from rfl, decide_true, cond_true, cond_false, Option.bind_some, this]
  by_cases h4 : i.1 = 4
  · cases hb : b with
    | true =>
      have := hloop [x + 1] (by rw [hnx, if_neg h2, if_neg h3, if_pos h4, hb, if_pos rfl])
      rw [hb] at this
      simp only [h4, show decide ((4 : Int) = 2) = false from rfl, show decide ((4 : Int) = 3) = false from rfl, decide_true, cond_true, cond_false, Option.bind_some, this]
    | false =>
      have := hloop [] (by rw [hnx, if_neg h2, if_neg h3, if_pos h4, hb, if_neg (by simp)])
      rw [hb] at this
      simp only [h4, show decide ((4 : Int) = 2) = false from rfl, show decide ((4 : Int) = 3) = false from rfl, decide_true, cond_true, cond_false, Option.bind_some, this]
  by_cases h5 : i.1 = 5
  · cases he : e with
    | true =>
      have := hloop [x + 1] (by rw [hnx, if_neg h2, if_neg h3, if_neg h4, if_pos h5, he, if_pos rfl])
      rw [he] at this
      simp only [h5, show decide ((5 : Int) = 2) = false from rfl, show decide ((5 : Int) = 3) = false from rfl, show decide ((5 : Int) = 4) = false from rfl, decide_true, cond_true, cond_false, Option.bind_some, this]
    | false =>
      have := hloop [] (by rw [hnx, if_neg h2, if_neg h3, if_neg h4, if_pos h5, he, if_neg (by simp)])
      rw [he] at this
      simp only [h5, show decide ((5 : Int) = 2) = false from rfl, show decide ((5 : Int) = 3) = false from rfl, show decide ((5 : Int) = 4) = false from rfl, decide_true, cond_true, cond_false, Option.bind_some, this]
  have := hloop [] (by rw [hnx, if_neg h2, if_neg h3, if_neg h4, if_neg h5])
  simp only [h2, h3, h4, h5, decide_false, cond_false, Option.bind_some, this]
theorem mark_loop (p : List In) (b e : Bool) (hp : GP p) (S : Int → Prop) (hS : ∀ v, S v → inN p v) : ∀ (k : Nat) (out : List Bool) (todo : List Int) (n : Nat), MInv p b e S p.length out todo → todo.length + 2 * out.count false ≤ k → k ≤ 20000 → k < n →
    ∃ r, iterN (fun x => mark8_s15 x.1 x.2.1 x.2.2.1 x.2.2.2.1 x.2.2.2.2.1) n (p, (b, (e, (out, (todo, ()))))) = some (r, ()) ∧ r.length = p.length ∧ ∀ v, Mk r v ↔ Cl p b e S v := by
  intro k
  induction k with
  | zero =>
    intro out todo n h hk hk2 hn
    obtain ⟨n, rfl⟩ := succ_of hn
    have : todo = [] := List.length_eq_zero_iff.1 (by omega)
    subst this
    refine ⟨out, iterN_inr (by simp [mark8_s15]), h.len, fun v => ⟨h.sub v, fun hv => hv.least h.base fun w hw => (h.clos w hw).resolve_left (by simp)⟩⟩
  | succ k ih =>
    intro out todo n h hk hk2 hn
    obtain ⟨n, rfl⟩ := succ_of (Nat.lt_of_le_of_lt (Nat.zero_le _) hn)
    rcases List.eq_nil_or_concat todo with rfl | ⟨T, x, rfl⟩
    · refine ⟨out, iterN_inr (by simp [mark8_s15]), h.len, fun v => ⟨h.sub v, fun hv => hv.least h.base fun w hw => (h.clos w hw).resolve_left (by simp)⟩⟩
    · rw [List.concat_eq_append] at h hk ⊢
      simp only [List.length_append, List.length_cons, List.length_nil] at hk
      have hx : inN p x := (h.sub x (h.tdo x (by simp))).inN hp hS
      have hst := mark_step p b e hp out T x h.len hx (by omega)
      obtain ⟨_, _, _, h4⟩ := psh_fold p.length (nx p b e x) out T h.len fun u hu => hp.rng b e x u hu
      obtain ⟨r, h5, h6, h7⟩ := ih _ _ n (h.round hp) (by omega) (by omega) (by omega)
      exact ⟨r, (iterN_inl hst).trans h5, h6, h7⟩
theorem mkOk1 {n : Nat} (h : n ≤ 1000000) : mkOk 1 ((n : Nat) : Int) ((n : Nat) : Int) = true := by
  simp only [mkOk, Bool.and_eq_true, decide_eq_true_eq]
  omega
theorem mark8_ex (p : List In) (a : List Bool) (b e : Bool) (hp : GP p) (hl : a.length = p.length) : ∃ r, mark8 p a b e = some ((), (r, ())) ∧ r.length = p.length ∧ ∀ v, Mk r v ↔ Cl p b e (Mk a) v := by
  have h1 := mark_init p a b e hl hp.len p.length 0 fuN (by omega) (by have := hp.len; have := fuN_le; omega)
  have h1' : iterN (fun x => mark8_s3 x.1 x.2.1 x.2.2.1 x.2.2.2.1 x.2.2.2.2.1 x.2.2.2.2.2.1 x.2.2.2.2.2.2.1) fuN (p, (a, (b, (e, (List.replicate (Int.toNat (p.length : Int)) false, (([] : List Int), ((0 : Int), ()))))))) = some (p, (b, (e, (a, (tds a a.length, ()))))) := by
    have := h1; simp only [List.take_zero, List.nil_append] at this; exact this
  have hS : ∀ v, Mk a v → inN p v := fun v hv => by
    obtain ⟨h2, h3, _⟩ := lk_some' hv
    exact ⟨h2, by omega⟩
  have hinv : MInv p b e (Mk a) p.length a (tds a a.length) := ⟨hl, fun v hv => (tds_mem a v).1 hv, fun v hv => .inl ((tds_mem a v).2 hv), fun v hv => .base hv, fun v hv => hv⟩
  have hc : a.count false ≤ a.length := List.count_le_length
  have ht := tds_length a a.length
  have hpl := hp.len
  obtain ⟨r, h2, h3, h4⟩ := mark_loop p b e hp (Mk a) hS ((tds a a.length).length + 2 * a.count false) a (tds a a.length) fuN hinv (Nat.le_refl _) (by omega) (by have := fuN_le; omega)
  refine ⟨r, ?_, h3, h4⟩
  simp only [mark8, mkOk1 (show p.length ≤ 1000000 by omega), cond_true, h1', Option.bind_some, h2]
open Classical in
noncomputable def clM (p : List In) (b e : Bool) (a : List Bool) : List Bool := (List.range p.length).map fun k => decide (Cl p b e (Mk a) ((k : Nat) : Int))
theorem clM_length (p : List In) (b e : Bool) (a : List Bool) : (clM p b e a).length = p.length := by simp [clM]
theorem clM_mk (p : List In) (b e : Bool) (a : List Bool) (hp : GP p) (hl : a.length = p.length) (v : Int) : Mk (clM p b e a) v ↔ Cl p b e (Mk a) v := by
  rw [Mk.iff_nat]
  unfold clM
  constructor
  · rintro ⟨h0, h1⟩
    simp only [List.getElem?_map] at h1
    cases hk : (List.range p.length)[v.toNat]? with
    | none => rw [hk] at h1; cases h1
    | some k =>
      rw [hk] at h1
      simp only [Option.map_some, Option.some.injEq, decide_eq_true_eq] at h1
      have : k = v.toNat := by
        obtain ⟨hlt, e⟩ := List.getElem?_eq_some_iff.1 hk
        simpa using e.symm
      rw [this, Int.toNat_of_nonneg h0] at h1
      exact h1
  · intro h
    have hin : inN p v := h.inN hp fun w hw => by
      obtain ⟨h2, h3, _⟩ := lk_some' hw
      exact ⟨h2, by omega⟩
    refine ⟨hin.1, ?_⟩
    have hlt : v.toNat < p.length := by have := hin.1; have := hin.2; omega
    simp only [List.getElem?_map, List.getElem?_range hlt, Option.map_some, Option.some.injEq, decide_eq_true_eq]
    rw [Int.toNat_of_nonneg hin.1]
    exact h
theorem mark8_is (p : List In) (a : List Bool) (b e : Bool) (hp : GP p) (hl : a.length = p.length) : mark8 p a b e = some ((), (clM p b e a, ())) := by
  obtain ⟨r, h1, h2, h3⟩ := mark8_ex p a b e hp hl
  rw [h1, marks_ext (h2.trans (clM_length p b e a).symm) fun v => by rw [h3, clM_mk p b e a hp hl]]
end Go.Vt.Pk
