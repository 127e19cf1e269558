/- Value semantics, part 18c: pools handed over; arguments. -/
import Derived.Test.YtaeobljnmfbdmaaVuLaw12b
set_option linter.unusedVariables false
namespace Go.Vu
open Go
variable {P : Program} {tb : Tab} {R : Type} {F0 : Bs} {M F F' : Nat → Prop} {W0 w w' : World} {ρ ρp : RK → Option RI} {s : St} {a : Act} {m : Nat → Nat → Option Value} {id : Nat}
theorem pl_arr {p i : Nat} {c : Cont} (h : s.cont (.pl p i) = some c) : ∃ ob, c = .arr ob := by
 simp only [St.cont] at h
 split at h
 ·unfold PL.cont at h
  split at h
  ·cases h; exact ⟨_, rfl⟩
  ·cases h
 ·cases h
theorem packP_cont : ∀ (qs : List (Nat × Ty)) {pv : PlDen qs}, packP s qs = some pv → ∀ p, (∀ i, pCont qs pv p i = if inPl p qs then s.cont (.pl p i) else none) ∧ pLen qs pv p = if inPl p qs then s.pln p else none
 | [], pv, h, p => ⟨fun i => by simp [pCont, inPl], by simp [pLen, inPl]⟩
 | (k, t) :: qs, pv, h, p => by
  simp only [packP] at h
  split at h
  ·rename_i q hq
   split at h
   ·rename_i ht
    subst ht
    split at h
    ·rename_i v hv
     cases h
     obtain ⟨g1, g2⟩ := packP_cont qs hv p
     cases hb : Nat.beq k p with
     | true =>
      have e := Nat.eq_of_beq_eq_true hb
      subst e
      refine ⟨fun i => ?_, ?_⟩
      ·simp only [pCont, inPl, hb, cond_true, Bool.true_or, if_true, St.cont, hq]
      ·simp only [pLen, inPl, hb, cond_true, Bool.true_or, if_true, St.pln, hq]
     | false =>
      refine ⟨fun i => ?_, ?_⟩
      ·simp only [pCont, inPl, hb, cond_false, Bool.false_or]; exact g1 i
      ·simp only [pLen, inPl, hb, cond_false, Bool.false_or]; exact g2
    ·cases h
   ·cases h
  ·cases h
theorem inPl_mem {p : Nat} : ∀ {qs : List (Nat × Ty)}, inPl p qs = true ↔ p ∈ qs.map (·.1)
 | [] => by simp [inPl]
 | (k, t) :: qs => by
  simp only [inPl, Bool.or_eq_true, List.map_cons, List.mem_cons, inPl_mem (qs := qs)]
  constructor
  ·rintro (h | h)
   ·exact .inl (Nat.eq_of_beq_eq_true h).symm
   ·exact .inr h
  ·rintro (h | h)
   ·left; rw [h]; exact Nat.beq_refl _
   ·exact .inr h
theorem pl_cont_lt {p i n : Nat} {c : Cont} (h : s.cont (.pl p i) = some c) (hn : s.pln p = some n) : i < n := by
 simp only [St.cont] at h
 unfold St.pln at hn
 split at h
 ·rename_i q hq
  rw [hq] at hn
  cases hn
  simp only [PL.cont] at h
  split at h
  ·rename_i xs hx; exact pl_lt hx
  ·cases h
 ·cases h
open Classical in
noncomputable def plBlks (s : St) (ρ : RK → Option RI) (qs : List (Nat × Ty)) : List Nat :=
 qs.flatMap fun q => (List.range ((s.pln q.1).getD 0)).flatMap fun i => match s.cont (.pl q.1 i), ρ (.pl q.1 i) with
  | some _, some ri => ri.A.toList.map (·.1)
  | _, _ => []
theorem plBlks_mem (h : RelAt F0 M W0 F ρ s a w) {qs : List (Nat × Ty)} {b : Nat} : b ∈ plBlks s ρ qs ↔ ∃ p i c ri, inPl p qs = true ∧ s.cont (.pl p i) = some c ∧ ρ (.pl p i) = some ri ∧ ri.blk b := by
 constructor
 ·intro hb
  simp only [plBlks, List.mem_flatMap] at hb
  obtain ⟨q, hq, i, _, hb⟩ := hb
  split at hb
  ·rename_i c ri hc hr
   simp only [List.mem_map, Option.mem_toList] at hb
   obtain ⟨p, hA, rfl⟩ := hb
   exact ⟨q.1, i, c, ri, inPl_mem.2 (List.mem_map_of_mem hq), hc, hr, RI.blkA hA⟩
  ·cases hb
 ·rintro ⟨p, i, c, ri, hp, hc, hr, hb⟩
  obtain ⟨q, hq, rfl⟩ := List.mem_map.1 (inPl_mem.1 hp)
  have hn : ∃ n, s.pln q.1 = some n := by
   simp only [St.cont] at hc
   unfold St.pln
   split at hc
   ·rename_i q' hq'; exact ⟨q'.l.length, by simp only⟩
   ·cases hc
  obtain ⟨n, hn⟩ := hn
  have hlt := pl_cont_lt hc hn
  obtain ⟨ri', h1, h2⟩ := h.cobj _ _ hc
  rw [hr] at h1; cases h1
  obtain ⟨pp, hA, rfl⟩ := blk_nosub (CRep.nosub h2 fun _ _ _ _ e => by obtain ⟨ob, e'⟩ := pl_arr hc; rw [e'] at e; cases e) hb
  simp only [plBlks, List.mem_flatMap]
  refine ⟨q, hq, i, by simp [hn, hlt], ?_⟩
  rw [hc, hr]
  simp [hA]
theorem packP_law (h : RelAt F0 M W0 F ρ s a w) (hpe : ∀ p i, ρp (.pl p i) = ρ (.pl p i)) (hF : ∀ b, F b → F' b) {qs : List (Nat × Ty)} {pv : PlDen qs} (hp : packP s qs = some pv) :
  ∃ rp, PRep F' w ρp qs pv rp ∧ OwnR s ρ (.pool (qs.map (·.1))) rp := by
 have hc := packP_cont qs hp
 have key : ∀ {p i c}, pCont qs pv p i = some c → inPl p qs = true ∧ s.cont (.pl p i) = some c := fun {p i c} h => by
  rw [(hc p).1] at h
  split at h
  ·exact ⟨by assumption, h⟩
  ·cases h
 refine ⟨⟨none, none, 0, 1, 0, plBlks s ρ qs⟩, ⟨⟨rfl, rfl⟩, fun p i c hk => ?_, fun p i p' i' c c' ri ri' b h1 h2 e1 e2 b1 b2 => ?_, fun b hb => ?_, fun p n i hn hi => ?_⟩, fun q e => (by cases e), fun b hb => ?_, fun q f e => by cases e⟩
 ·obtain ⟨h1, h2⟩ := key hk
  obtain ⟨ri, h3, h4⟩ := h.cobj _ _ h2
  refine ⟨ri, by rw [hpe]; exact h3, ?_, fun b hb => (plBlks_mem h).2 ⟨p, i, c, ri, h1, h2, h3, hb⟩⟩
  obtain ⟨ob, rfl⟩ : ∃ ob, c = .arr ob := by
   simp only [St.cont] at h2
   split at h2
   ·simp only [PL.cont] at h2
    split at h2
    ·cases h2; exact ⟨_, rfl⟩
    ·cases h2
   ·cases h2
  exact ORep.hold0 (fun p i x hx => by rw [hpe]; exact hx) (ORep.mono h4 hF (fun _ _ h => h))
 ·rw [hpe] at e1 e2
  have := h.csep _ _ _ _ ri ri' b (key h1).2 (key h2).2 e1 e2 b1 b2
  cases this; exact ⟨rfl, rfl⟩
 ·obtain ⟨p, i, c, ri, h1, h2, h3, h4⟩ := (plBlks_mem h).1 hb
  exact ⟨p, i, c, ri, by rw [(hc p).1, if_pos h1]; exact h2, by rw [hpe]; exact h3, h4⟩
 ·rw [(hc p).2] at hn
  split at hn
  ·rw [hpe]; exact h.pfresh p n i hn hi
  ·cases hn
 ·rcases hb with ⟨p, hA, _⟩ | hb
  ·cases hA
  ·obtain ⟨p, i, c, ri, h1, h2, h3, h4⟩ := (plBlks_mem h).1 hb
   exact ⟨.pl p i, c, ri, ⟨p, inPl_mem.1 h1, i, rfl⟩, h2, h3, h4⟩
theorem args_law (h : RelAt F0 M W0 F ρ s a w) (hpe : ∀ p i, ρp (.pl p i) = ρ (.pl p i)) {Fc : Nat → Prop} (hF : ∀ b, F b → Fc b) : ∀ (ps : List PM) (xs : List TV) (vals : List Value) {v : PDen ps} {al : List RQ} {mo : List MO},
  argsD s ps xs = some (v, al, mo, true) → RepL F (mem w) ρ xs vals → Reads s ρ Fc al →
  ∃ ris, ArgsRep Fc w ρp ps v vals ris ∧ OwnRs s ρ mo ris ∧ ∀ m, mutUp s ps xs = some m → (mutTy ps).isSome = true → ∃ r, mutRI ps ris = some r ∧ MutAt s ρ F w mo (mutTy ps) m r
 | [], [], vals, v, al, mo, he, hr, hal => by
  simp only [argsD] at he
  cases he
  exact ⟨[], ⟨hr, rfl⟩, rfl, fun m hm => (by simp [mutUp] at hm)⟩
 | [], _ :: _, vals, v, al, mo, he, hr, hal => by simp [argsD] at he
 | .ro t :: ps, [], vals, v, al, mo, he, hr, hal => by simp [argsD] at he
 | .mu t :: ps, [], vals, v, al, mo, he, hr, hal => by simp [argsD] at he
 | .own t :: ps, [], vals, v, al, mo, he, hr, hal => by simp [argsD] at he
 | .ownp qs t :: ps, [], vals, v, al, mo, he, hr, hal => by simp [argsD] at he
 | .ro t :: ps, x :: xs, vals, v, al, mo, he, hr, hal => by
  obtain ⟨vx, r, e1, hx, hx1, hr'⟩ := hr
  subst e1
  simp only [argsD] at he
  cases hrec : argsD s ps xs with
  | none => simp [hrec] at he
  | some q =>
   obtain ⟨rv, al', mo', k'⟩ := q
   simp only [hrec] at he
   split at he
   ·rename_i hpt
    simp only [Bool.and_eq_true, beq_iff_eq] at hpt
    split at he
    ·rename_i u l j hu
     simp only [Option.some.injEq, Prod.mk.injEq, Bool.and_eq_true] at he
     obtain ⟨rfl, rfl, rfl, rfl, rfl⟩ := he
     obtain ⟨ris, g1, g2, g4⟩ := args_law h hpe hF ps xs r hrec hr' hal.right
     refine ⟨ris, ⟨vx, r, rfl, hpt.1, rd_V h (fun p i x hx => by rw [hpe]; exact hx) hF hu hpt.1 hx1 hx hal.left, g1⟩, g2, fun m hm hm2 => ?_⟩
     simp only [mutUp] at hm
     split at hm
     ·rename_i m' hm'
      cases hm
      obtain ⟨r, k1, k2⟩ := g4 m' hm' hm2
      exact ⟨r, k1, k2⟩
     ·cases hm
    ·cases he
   ·cases he
 | .mu t :: ps, x :: xs, vals, v, al, mo, he, hr, hal => by
  obtain ⟨vx, r, e1, hx, hx1, hr'⟩ := hr
  subst e1
  simp only [argsD] at he
  cases hrec : argsD s ps xs with
  | none => simp [hrec] at he
  | some q =>
   obtain ⟨rv, al', mo', k'⟩ := q
   simp only [hrec] at he
   split at he
   ·cases he
   ·split at he
    ·rename_i u l f j hu
     simp only [Option.some.injEq, Prod.mk.injEq, Bool.and_eq_true] at he
     obtain ⟨rfl, rfl, rfl, ⟨rfl, hw⟩, rfl⟩ := he
     obtain ⟨ris, g1, g2, g4⟩ := args_law h hpe hF ps xs r hrec hr' hal.right
     have hpl : ∀ p i x, ρ (.pl p i) = some x → ρp (.pl p i) = some x := fun p i x hx => by rw [hpe]; exact hx
     cases hm : mutUp s (.mu t :: ps) (x :: xs) with
     | none =>
      obtain ⟨r1, k1, k2⟩ := cls_V h hpl hF hu hx1 hx hal.left
      exact ⟨r1 ++ ris, ⟨vx, r, r1, ris, rfl, rfl, k1, g1⟩, k2.append g2, fun m hm' => by cases hm'⟩
     | some m =>
      obtain ⟨r1, r0, k1, k2, k3, k4⟩ := mut_root h hpl hF hu hw hm hx1 hx hal.left
      refine ⟨r1 ++ ris, ⟨vx, r, r1, ris, rfl, rfl, k1, g1⟩, k2.append g2, fun m' hm' _ => ?_⟩
      cases hm'
      refine ⟨r0, ?_, k4.more (fun m hm => by simp [hm])⟩
      cases r1 with
      | nil => cases k3
      | cons z r1 => cases k3; rfl
    ·cases he
 | .own t :: ps, x :: xs, vals, v, al, mo, he, hr, hal => by
  obtain ⟨vx, r, e1, hx, hx1, hr'⟩ := hr
  subst e1
  simp only [argsD] at he
  cases hrec : argsD s ps xs with
  | none => simp [hrec] at he
  | some q =>
   obtain ⟨rv, al', mo', k'⟩ := q
   simp only [hrec] at he
   split at he
   ·split at he
    ·rename_i u l f j hu
     simp only [Option.some.injEq, Prod.mk.injEq, Bool.and_eq_true] at he
     obtain ⟨rfl, rfl, rfl, rfl, rfl⟩ := he
     obtain ⟨ris, g1, g2, g4⟩ := args_law h hpe hF ps xs r hrec hr' hal.right
     obtain ⟨r1, k1, k2⟩ := cls_V (ρp := ρp) h (fun p i x hx => by rw [hpe]; exact hx) hF hu hx1 hx hal.left
     refine ⟨r1 ++ ris, ⟨vx, r, r1, ris, rfl, rfl, k1, g1⟩, k2.append g2, fun m hm hm2 => ?_⟩
     simp only [mutUp] at hm
     split at hm
     ·rename_i m' hm'
      cases hm
      obtain ⟨r', e1, e2⟩ := g4 m' hm' hm2
      have hl : r1.length = Go.Vu.cnt t := by rw [← k2.length]; exact (cls_facts t x hu).cnt
      refine ⟨r', ?_, e2.more (fun m hm => by simp [hm])⟩
      simp only [mutRI]
      rw [List.drop_append_of_le_length (by omega), List.drop_of_length_le (by omega)]
      exact e1
     ·cases hm
    ·cases he
   ·cases he
 | .ownp qs t :: ps, x :: xs, vals, v, al, mo, he, hr, hal => by
  obtain ⟨vx, r, e1, hx, hx1, hr'⟩ := hr
  subst e1
  simp only [argsD] at he
  split at he
  ·rename_i rv al' mo' k' pv hrec hpv
   split at he
   ·split at he
    ·rename_i u l f j hu
     simp only [Option.some.injEq, Prod.mk.injEq, Bool.and_eq_true] at he
     obtain ⟨rfl, rfl, rfl, rfl, rfl⟩ := he
     obtain ⟨ris, g1, g2, g4⟩ := args_law h hpe hF ps xs r hrec hr' hal.right
     obtain ⟨r1, k1, k2⟩ := cls_V (ρp := ρp) h (fun p i x hx => by rw [hpe]; exact hx) hF hu hx1 hx hal.left
     obtain ⟨rp, k3, k4⟩ := packP_law h hpe hF hpv
     refine ⟨r1 ++ rp :: ris, ⟨vx, r, r1, rp, ris, rfl, rfl, k1, k3, g1⟩, k2.append ⟨rp, ris, rfl, k4, g2⟩, fun m hm hm2 => ?_⟩
     simp only [mutUp] at hm
     split at hm
     ·rename_i m' hm'
      cases hm
      obtain ⟨r', e1, e2⟩ := g4 m' hm' hm2
      have hl : r1.length = Go.Vu.cnt t := by rw [← k2.length]; exact (cls_facts t x hu).cnt
      refine ⟨r', ?_, e2.more (fun m hm => by simp [hm])⟩
      simp only [mutRI]
      rw [show r1 ++ rp :: ris = (r1 ++ [rp]) ++ ris by simp, List.drop_append_of_le_length (by simp; omega), List.drop_of_length_le (by simp; omega)]
      exact e1
     ·cases hm
    ·cases he
   ·cases he
  ·cases he
end Go.Vu
