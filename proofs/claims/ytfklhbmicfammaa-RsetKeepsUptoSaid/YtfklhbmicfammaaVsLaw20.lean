/- Value semantics, part 26: a function keeps what its values' function promises. -/
import Derived.Test.YtfklhbmicfammaaVsLaw19
set_option linter.unusedVariables false
namespace Go.Vs
open Go

variable {P : Program} {tb : Tab} {Γ : Nat → List Ctr} {F0 M F F' : Nat → Prop} {W0 w w' : World} {ρ ρ' : Nat → Option RI} {s s' : St} {a : Act}

/- - arguments that are only read -/
def allRo : List PM → Bool
  | [] => true
  | .ro _ :: ps => allRo ps
  | _ :: _ => false
def inSlots : (ps : List PM) → PDen ps → Nat → Nat → List (Nat × TV)
  | [], _, _, _ => []
  | .ro t :: ps, v, k, i => (i, ⟨t, v.1⟩) :: inSlots ps v.2 k (i + 1)
  | .mut t :: ps, v, k, i => (i, ⟨.ow k, ()⟩) :: inSlots ps v.2 (k + 1) (i + 1)
  | .own t :: ps, v, k, i => (i, ⟨.ow k, ()⟩) :: inSlots ps v.2 (k + 1) (i + 1)
  | .mutp t :: ps, v, k, i => (i, ⟨.oad k 0, (0 : Int)⟩) :: inSlots ps v.2 (k + 1) (i + 1)
def inObjs : (ps : List PM) → PDen ps → List ObS
  | [], _ => []
  | .ro t :: ps, v => inObjs ps v.2
  | .mut t :: ps, v => .live ⟨t, v.1⟩ :: inObjs ps v.2
  | .own t :: ps, v => .live ⟨t, v.1⟩ :: inObjs ps v.2
  | .mutp t :: ps, v => .live ⟨t, v.1⟩ :: inObjs ps v.2
/- - more rounds than any loop has -/
theorem fuelN_ex : ∃ n : Nat, 9223372036854775808 ≤ n := ⟨_, Nat.le_refl _⟩
noncomputable def fuelN : Nat := Classical.choose fuelN_ex
theorem fuelN_le : 9223372036854775808 ≤ fuelN := Classical.choose_spec fuelN_ex
def initSt (n : Nat) (ps : List PM) (v : PDen ps) : St := ⟨n, inSlots ps v 0 0, inObjs ps v⟩

/- - how results are handed out -/
def outTpl : List RM → List Nat → Nat → Tpl
  | .val t :: rs, i :: is, k => ⟨(i, t) :: (outTpl rs is k).sl, (outTpl rs is k).rg, []⟩
  | .own t :: rs, i :: is, k => ⟨(i, .ow k) :: (outTpl rs is (k + 1)).sl, (i, t) :: (outTpl rs is (k + 1)).rg, []⟩
  | _, _, _ => ⟨[], [], []⟩
def mutTpl (rs : List RM) (is : List Nat) : List PM → Nat → Tpl
  | [], _ => outTpl rs is 0
  | .mut t :: _, i => ⟨(i, .ow 0) :: (outTpl rs is 1).sl, (i, t) :: (outTpl rs is 1).rg, []⟩
  | .mutp t :: _, i => ⟨(i, .oad 0 0) :: (outTpl rs is 1).sl, (i, t) :: (outTpl rs is 1).rg, []⟩
  | .ro _ :: ps, i => mutTpl rs is ps (i + 1)
  | .own _ :: ps, i => mutTpl rs is ps (i + 1)
def readO (s : St) (t : Ty) (i : Nat) : Option (List t.den) := match s.get i with
    | some ⟨.ow q, _⟩ => match s.obj q with
      | some ob => if h : ob.t = t then some (h ▸ ob.xs) else none
      | none => none
    | _ => none
def read1 (s : St) : (r : RM) → Nat → Option r.den
  | .val t, i => match s.get i with
    | some x => if h : x.t = t then (if t.pure then some (h ▸ x.v) else none) else none
    | none => none
  | .own t, i => readO s t i
def readR (s : St) : (rs : List RM) → List Nat → Option (RDen rs)
  | [], [] => some ()
  | r :: rs, i :: is => match read1 s r i, readR s rs is with
    | some v, some l => some (v, l)
    | _, _ => none
  | _, _ => none
def readP (s : St) (t : Ty) (i : Nat) : Option (List t.den) := match s.get i with
    | some ⟨.oad q 0, ix⟩ => match s.obj q with
      | some ob => if h : ob.t = t then some (h ▸ ob.xs) else none
      | none => none
    | _ => none
def readM (s : St) : (ps : List PM) → Nat → Option (ODen (mutTy ps))
  | [], _ => some ()
  | .mut t :: _, i => readO s t i
  | .mutp t :: _, i => readP s t i
  | .own _ :: ps, i => readM s ps (i + 1)
  | .ro _ :: ps, i => readM s ps (i + 1)

/- - what is asked of a pointer that was written through -/
def testM (s : St) : List PM → Nat → Bool
  | [], _ => true
  | .mut _ :: _, _ => true
  | .mutp _ :: _, i => (match s.get i with
    | some ⟨.oad q _, ix⟩ => (match s.obj q with
      | some ob => onlyB ob.xs.length ix
      | none => false)
    | _ => false)
  | .own _ :: ps, i => testM s ps (i + 1)
  | .ro _ :: ps, i => testM s ps (i + 1)

def funK (n : Nat) (ps : List PM) (rs : List RM) (is : List Nat) : EK → St → Option (ODen (mutTy ps) × RDen rs)
  | .exit _, _ => none
  | _, s => match pack n s (mutTpl rs is ps 0) with
    | some x => bif testM (unpack n (mutTpl rs is ps 0) x) ps 0 then
        (match readM (unpack n (mutTpl rs is ps 0) x) ps 0, readR (unpack n (mutTpl rs is ps 0) x) rs is with
        | some m, some r => some (m, r)
        | _, _ => none) else none
    | none => none

/- - WHAT A FUNCTION'S BODY COMPUTES -/
def semF (tb : Tab) (Γ : Nat → List Ctr) (H : Nat → Option LH) (fuel n : Nat) (body : Code) (ps : List PM) (rs : List RM) (is : List Nat) (v : PDen ps) : Option (ODen (mutTy ps) × RDen rs) :=
  sem tb Γ H fuel n body (initSt n ps v) (funK n ps rs is)

/- what comes in -/
def zeroA (r : RI) : RI := ⟨if r.c = 0 then none else r.A, r.raw, r.n, r.c, r.sz⟩
theorem zeroA_val (r : RI) : (zeroA r).val = r.val := rfl
theorem ORep.zero {ri : RI} {ob : OB} (h : ORep F w ρ ri ob) : ORep F w ρ (zeroA ri) ob := by
  refine ⟨h.n, h.sz, h.le, h.pure, fun hA => ?_, ?_, fun p hA => ?_, fun p hA => ?_⟩
  · simp only [zeroA] at hA ⊢
    split at hA
    · assumption
    · exact h.none hA
  · simp only [zeroA]
    split
    · left; assumption
    · exact h.raw
  · simp only [zeroA] at hA ⊢
    split at hA
    · cases hA
    · exact h.block p hA
  · simp only [zeroA] at hA ⊢
    split at hA
    · cases hA
    · exact h.cells p hA
theorem blk_zero {ris : List RI} {b : Nat} (h : Blk (ris.map zeroA) b) : ∃ ri ∈ ris, ri.c ≠ 0 ∧ ∃ p, ri.A = some p ∧ p.1 = b := by
  obtain ⟨r0, h1, p, h2, h3⟩ := h
  obtain ⟨ri, h4, rfl⟩ := List.mem_map.1 h1
  simp only [zeroA] at h2
  split at h2
  · cases h2
  · exact ⟨ri, h4, by assumption, p, h2, h3⟩
theorem blk_of_zero {ris : List RI} {b : Nat} (h : Blk (ris.map zeroA) b) : Blk ris b := let ⟨ri, h1, _, p, h2, h3⟩ := blk_zero h; ⟨ri, h1, p, h2, h3⟩

theorem apart_idx : ∀ (ris : List RI), Apart ris → ∀ {i j : Nat} {x y : RI} {p q : Nat × Nat}, ris[i]? = some x → ris[j]? = some y → x.A = some p → y.A = some q → p.1 = q.1 → i = j
  | [], _, i, j, x, y, p, q, h, _, _, _, _ => by simp at h
  | r :: ris, ⟨ha, hb⟩, i, j, x, y, p, q, h1, h2, e1, e2, e => by
    cases i with
    | zero =>
      simp only [List.getElem?_cons_zero, Option.some.injEq] at h1; subst h1
      cases j with
      | zero => rfl
      | succ j => exact absurd ⟨y, List.mem_of_getElem? (by simpa using h2), q, e2, e.symm⟩ (ha p e1)
    | succ i =>
      cases j with
      | zero =>
        simp only [List.getElem?_cons_zero, Option.some.injEq] at h2; subst h2
        exact absurd ⟨x, List.mem_of_getElem? (by simpa using h1), p, e1, e⟩ (ha q e2)
      | succ j => rw [apart_idx ris hb (i := i) (j := j) (by simpa using h1) (by simpa using h2) e1 e2 e]

/- - the arguments in their slots, the regions in their order -/
theorem in_law {F : Nat → Prop} (all : List RI) : ∀ (ps : List PM) (v : PDen ps) (args : List Value) (ris pre : List RI) (q : Nat), all = pre ++ ris → ArgsRep F w ps v args ris →
    (inObjs ps v).length = ris.length ∧ (∀ (i : Nat), asc (inSlots ps v pre.length q) i = ⟨.any, ()⟩ ∨ ∃ val, q ≤ i ∧ args[i - q]? = some val ∧ RepV F (mem w) (fun r => (all.map zeroA)[r]?) (asc (inSlots ps v pre.length q) i).t (asc (inSlots ps v pre.length q) i).v val) ∧
      (∀ (r : Nat) o, (inObjs ps v)[r]? = some o → ∃ ob ri, o = .live ob ∧ ris[r]? = some ri ∧ ORep F w ρ0 ri ob)
  | [], _, args, ris, pre, q, hall, h => by obtain ⟨rfl, rfl⟩ := h; exact ⟨rfl, fun i => .inl rfl, fun r o h => by simp [inObjs] at h⟩
  | .ro t :: ps, v, args, ris, pre, q, hall, h => by
    obtain ⟨x, r, rfl, h1, h2, h3⟩ := h
    obtain ⟨e2, h4, h5⟩ := in_law all ps v.2 r ris pre (q + 1) hall h3
    refine ⟨e2, fun i => ?_, h5⟩
    simp only [inSlots, asc]
    cases hb : Nat.beq q i with
    | true => have := Nat.eq_of_beq_eq_true hb; subst this; exact .inr ⟨x, Nat.le_refl _, by simp, RepV.of (h2.pure h1)⟩
    | false =>
      rcases h4 i with h6 | ⟨val, h6, h7, h8⟩
      · exact .inl h6
      · exact .inr ⟨val, by omega, by rw [show i - q = (i - (q + 1)) + 1 by omega]; simpa using h7, h8⟩
  | .mut t :: ps, v, args, ris, pre, q, hall, h => by
    obtain ⟨ri, rs, r, rfl, rfl, h2, h3⟩ := h
    obtain ⟨e2, h4, h5⟩ := in_law all ps v.2 r rs (pre ++ [ri]) (q + 1) (by simp [hall]) h3
    rw [List.length_append] at h4
    refine ⟨by simp [inObjs, e2], fun i => ?_, fun k o ho => ?_⟩
    · simp only [inSlots, asc]
      cases hb : Nat.beq q i with
      | true => have := Nat.eq_of_beq_eq_true hb; subst this; exact .inr ⟨ri.val, Nat.le_refl _, by simp, rfl, zeroA ri, by simp [hall], by rw [zeroA_val]⟩
      | false =>
        rcases h4 i with h6 | ⟨val, h6, h7, h8⟩
        · exact .inl h6
        · exact .inr ⟨val, by omega, by rw [show i - q = (i - (q + 1)) + 1 by omega]; simpa using h7, h8⟩
    · cases k with
      | zero =>
        simp only [inObjs, List.getElem?_cons_zero, Option.some.injEq] at ho
        exact ⟨_, ri, ho.symm, rfl, h2⟩
      | succ k => exact h5 k o (by simpa [inObjs] using ho)
  | .own t :: ps, v, args, ris, pre, q, hall, h => by
    obtain ⟨ri, rs, r, rfl, rfl, h2, h3⟩ := h
    obtain ⟨e2, h4, h5⟩ := in_law all ps v.2 r rs (pre ++ [ri]) (q + 1) (by simp [hall]) h3
    rw [List.length_append] at h4
    refine ⟨by simp [inObjs, e2], fun i => ?_, fun k o ho => ?_⟩
    · simp only [inSlots, asc]
      cases hb : Nat.beq q i with
      | true => have := Nat.eq_of_beq_eq_true hb; subst this; exact .inr ⟨ri.val, Nat.le_refl _, by simp, rfl, zeroA ri, by simp [hall], by rw [zeroA_val]⟩
      | false =>
        rcases h4 i with h6 | ⟨val, h6, h7, h8⟩
        · exact .inl h6
        · exact .inr ⟨val, by omega, by rw [show i - q = (i - (q + 1)) + 1 by omega]; simpa using h7, h8⟩
    · cases k with
      | zero =>
        simp only [inObjs, List.getElem?_cons_zero, Option.some.injEq] at ho
        exact ⟨_, ri, ho.symm, rfl, h2⟩
      | succ k => exact h5 k o (by simpa [inObjs] using ho)
  | .mutp t :: ps, v, args, ris, pre, q, hall, h => by
    obtain ⟨ri, rs, r, p, rfl, rfl, hA, hn1, h2, h3⟩ := h
    have hz : (zeroA ri).A = some p := by
      have h6 := h2.le
      simp only [zeroA]
      rw [if_neg (by omega)]; exact hA
    obtain ⟨e2, h4, h5⟩ := in_law all ps v.2 r rs (pre ++ [ri]) (q + 1) (by simp [hall]) h3
    rw [List.length_append] at h4
    refine ⟨by simp [inObjs, e2], fun i => ?_, fun k o ho => ?_⟩
    · simp only [inSlots, asc]
      cases hb : Nat.beq q i with
      | true => have := Nat.eq_of_beq_eq_true hb; subst this; exact .inr ⟨.pointer (some (adr p)), Nat.le_refl _, by simp, rfl, zeroA ri, p, by simp [hall], hz, by simp [adr]⟩
      | false =>
        rcases h4 i with h6 | ⟨val, h6, h7, h8⟩
        · exact .inl h6
        · exact .inr ⟨val, by omega, by rw [show i - q = (i - (q + 1)) + 1 by omega]; simpa using h7, h8⟩
    · cases k with
      | zero =>
        simp only [inObjs, List.getElem?_cons_zero, Option.some.injEq] at ho
        exact ⟨_, ri, ho.symm, rfl, h2⟩
      | succ k => exact h5 k o (by simpa [inObjs] using ho)

theorem init_rel {F : Nat → Prop} (hF : ∀ b, F b → b < w.heap.size) {ps : List PM} {v : PDen ps} {args : List Value} {ris : List RI} (h : ArgsRep F w ps v args ris) (hap : Apart ris) (hd : ∀ b, Blk ris b → ¬ F b) (n : Nat) :
    RelAt F (Blk (ris.map zeroA)) w F (fun r => (ris.map zeroA)[r]?) (initSt n ps v) { tmps := args.toArray ++ Array.replicate (n - args.length) undef, defers := [] } w := by
  obtain ⟨h2, h3, h4⟩ := in_law ris ps v args ris [] 0 rfl h
  have getO : ∀ {r : Nat} {ob : OB}, (initSt n ps v).obj r = some ob → ∃ ri, ris[r]? = some ri ∧ ORep F w ρ0 ri ob := fun {r ob} hr => by
    obtain ⟨ob', ri, e, h5, h6⟩ := h4 r _ (St.obj_iff.1 hr)
    cases e
    exact ⟨ri, h5, h6⟩
  have getA : ∀ {r : Nat} {ri : RI}, (ris.map zeroA)[r]? = some ri → ∃ r0, ris[r]? = some r0 ∧ ri = zeroA r0 := fun {r ri} hr => by
    rw [List.getElem?_map] at hr
    cases he : ris[r]? with
    | none => rw [he] at hr; cases hr
    | some r0 => rw [he] at hr; cases hr; exact ⟨r0, rfl, rfl⟩
  have zA : ∀ {r0 : RI} {p}, (zeroA r0).A = some p → r0.A = some p := fun {r0 p} hp => by
    simp only [zeroA] at hp
    split at hp
    · cases hp
    · exact hp
  refine ⟨rfl, fun i x hx => ?_, fun r ob hr => ?_, fun r r' ob ob' ri ri' p p' hr hr' e1 e2 hp hp' he => ?_, fun r ob ri p hr e1 hp => ?_, fun r hr => ?_, hF, fun b hb => hb, fun b hb => .inl hb, Kept.refl _ w⟩
  · have hlt : i < n := St.lt_get hx
    rw [St.get_lt (s := initSt n ps v) hlt] at hx
    cases hx
    have ht : ∃ val, ({ tmps := args.toArray ++ Array.replicate (n - args.length) undef, defers := [] } : Act).tmps[i]? = some val ∧ (i < args.length → args[i]? = some val) := by
      by_cases hl : i < args.length
      · refine ⟨args[i], ?_, fun _ => List.getElem?_eq_getElem hl⟩
        simp [Array.getElem?_append, hl]
      · refine ⟨undef, ?_, fun h => absurd h hl⟩
        rw [Array.getElem?_append_right (by simp; omega)]
        simp only [List.size_toArray, Array.getElem?_replicate]
        rw [if_pos (by omega)]
    obtain ⟨val, t1, t2⟩ := ht
    refine ⟨val, t1, ?_⟩
    rcases h3 i with h6 | ⟨val', _, h7, h8⟩
    · show RepV _ _ _ (asc (inSlots ps v 0 0) i).t (asc (inSlots ps v 0 0) i).v val
      rw [show asc (inSlots ps v 0 0) i = ⟨.any, ()⟩ from h6]
      trivial
    · simp only [Nat.sub_zero] at h7
      have hl : i < args.length := by
        rcases Nat.lt_or_ge i args.length with h | h
        · exact h
        · rw [List.getElem?_eq_none h] at h7; cases h7
      rw [t2 hl] at h7; cases h7
      exact h8
  · obtain ⟨ri, h5, h6⟩ := getO hr
    exact ⟨zeroA ri, by rw [List.getElem?_map, h5]; rfl, ORep.pure0 h6.zero⟩
  · obtain ⟨a1, b1, rfl⟩ := getA e1
    obtain ⟨a2, b2, rfl⟩ := getA e2
    exact apart_idx ris hap b1 b2 (zA hp) (zA hp') he
  · obtain ⟨a1, b1, rfl⟩ := getA e1
    exact ⟨hd _ ⟨a1, List.mem_of_getElem? b1, p, zA hp, rfl⟩, .inr ⟨zeroA a1, List.mem_of_getElem? e1, p, hp, rfl⟩⟩
  · rcases hr with hr | ⟨o, hr, ho⟩
    · simp only [initSt] at hr
      have : ris.length ≤ r := by rw [← h2]; exact List.getElem?_eq_none_iff.1 hr
      exact List.getElem?_eq_none (by simpa using this)
    · subst ho
      obtain ⟨ob, ri, e, _⟩ := h4 r _ hr
      cases e

theorem pure_tup {t : Ty} (h : t.pure = true) : ∀ u, t ≠ .tup u := fun u e => by subst e; simp [Ty.pure] at h
theorem pure_any {t : Ty} (h : t.pure = true) : isAny t = false := by cases t <;> first | rfl | (simp [Ty.pure] at h)

theorem RepV1.flat {F' : Nat → Prop} {ρ' : Nat → Option RI} {t : Ty} {v : t.den} {x : Value} (hf : t.flat = true) (h : RepV1 F (mem w) ρ t v x) : RepV1 F' (mem w) ρ' t v x := by
  unfold RepV1 at *
  split
  · rename_i hs
    rw [if_pos hs] at h
    obtain ⟨cs, h1, h2⟩ := h
    exact ⟨cs, h1, Rep.flat _ _ _ hf h2⟩
  · rename_i hs
    rw [if_neg hs] at h
    exact ⟨h.1, Rep.flat _ _ _ hf h.2⟩

theorem read1_law {G : Nat → Prop} {ok : Nat → Prop} (h : RelAt F0 M W0 F ρ s a w) : ∀ (r : RM) (hG : (∀ b, F b → G b) ∨ r.flat = true) (hok : (∀ t, r ≠ .own t) ∨ ∀ b, ¬ F b → (W0.heap.size ≤ b ∨ M b) → ok b) (i : Nat) {v : r.den}, read1 s r i = some v →
    ResRep1 G w ok r v (a.tmps.getD i undef)
  | .val t, hG, hok, i, v, he => by
    simp only [read1] at he
    split at he
    · rename_i x hx
      split at he
      · rename_i ht
        split at he
        · rename_i hp
          cases he
          obtain ⟨tx, vx⟩ := x
          simp only at ht
          subst ht
          obtain ⟨val, h1, h2⟩ := h.slot i _ hx
          have : a.tmps.getD i undef = val := by simp [Array.getD_eq_getD_getElem?, h1]
          rw [this]
          have h3 := RepV1.of h2 (pure_any hp) (pure_tup hp)
          refine ⟨hp, ?_⟩
          rcases hG with hG | hG
          · exact (RepV1.mono (F' := G) (m' := mem w) (ρ' := ρ) hG (fun _ _ _ _ h => h) (fun _ _ h => h) _ _ _ h3).pure hp
          · exact RepV1.flat hG h3
        · cases he
      · cases he
    · cases he
  | .own t, hG, hok, i, v, he => by
    simp only [read1, readO] at he
    split at he
    · rename_i q u hx
      split at he
      · rename_i ob hob
        split at he
        · rename_i ht
          cases he
          subst ht
          obtain ⟨val, h1, _, ri, h2, h3⟩ := h.slot i _ hx
          have : a.tmps.getD i undef = val := by simp [Array.getD_eq_getD_getElem?, h1]
          rw [this]
          obtain ⟨ri', h4, h5⟩ := h.obj q ob hob
          rw [h2] at h4; cases h4
          refine ⟨ri, by simpa using h3, ?_, fun p hp => ?_⟩
          · rcases hG with hG | hG
            · exact (ORep.pure0 h5).mono hG (fun _ _ h => h)
            · exact ORep.flat0 hG (ORep.pure0 h5)
          · obtain ⟨h6, h7⟩ := h.own q ob ri p hob h2 hp
            rcases hok with hok | hok
            · exact absurd rfl (hok _)
            · exact hok _ h6 h7
        · cases he
      · cases he
    · cases he

theorem readR_law {G : Nat → Prop} {ok : Nat → Prop} (h : RelAt F0 M W0 F ρ s a w) : ∀ (rs : List RM) (hG : (∀ b, F b → G b) ∨ rs.all RM.flat = true) (hok : nOwn rs = 0 ∨ ∀ b, ¬ F b → (W0.heap.size ≤ b ∨ M b) → ok b) (is : List Nat) {v : RDen rs}, readR s rs is = some v →
    ResRepL G w ok rs v (is.map fun i => a.tmps.getD i undef)
  | [], _, _, [], v, he => rfl
  | [], _, _, _ :: _, v, he => by simp [readR] at he
  | _ :: _, _, _, [], v, he => by simp [readR] at he
  | r :: rs, hG, hok, i :: is, v, he => by
    simp only [readR] at he
    split at he
    · rename_i v1 l h1 h2
      cases he
      refine ⟨_, _, rfl, read1_law h r (hG.imp id fun h => ?_) ?_ i h1, readR_law h rs (hG.imp id fun h => ?_) ?_ is h2⟩
      · simp only [List.all_cons, Bool.and_eq_true] at h; exact h.1
      · rcases hok with h0 | h0
        · left; intro t e; subst e; simp [nOwn] at h0
        · exact .inr h0
      · simp only [List.all_cons, Bool.and_eq_true] at h; exact h.2
      · rcases hok with h0 | h0
        · left; cases r <;> simp [nOwn] at h0 ⊢ <;> exact h0
        · exact .inr h0
    · cases he

def retVal (tmps : Array Value) : List Nat → Value
  | [i] => tmps.getD i undef
  | is => .tuple (is.map fun i => tmps.getD i undef).toArray

theorem mapM_tmp (f : ResultVar → Sem Value) (g : Nat → Value) (hf : ∀ t, f (.tmp t) = pure (g t)) : ∀ is : List Nat, (is.map ResultVar.tmp).mapM f = pure (is.map g)
  | [] => rfl
  | i :: is => by simp only [List.map_cons, List.mapM_cons, hf, mapM_tmp f g hf is, pure_bind]

theorem results_run {fn : Func} {is : List Nat} (hres : fn.results = (is.map ResultVar.tmp).toArray) (tmps : Array Value) :
    (results fn tmps).run P w = .ok (retVal tmps is) w := by
  unfold results
  rw [hres, List.mapM_toArray, mapM_tmp _ (fun i => tmps.getD i undef) (fun _ => rfl) is]
  simp only [map_pure, pure_bind]
  cases is with
  | nil => rfl
  | cons i is =>
    cases is with
    | nil => rfl
    | cons j is =>
      rw [dif_neg (by simp)]
      rfl

theorem resRep_of {G : Nat → Prop} {ok : Nat → Prop} {tmps : Array Value} : ∀ (rs : List RM) (is : List Nat) {v : RDen rs}, ResRepL G w ok rs v (is.map fun i => tmps.getD i undef) →
    ResRep G w ok rs v (retVal tmps is)
  | [], is, v, h => trivial
  | [r], [], v, h => by obtain ⟨x, l, e, _⟩ := h; cases e
  | [r], [i], v, h => by
    obtain ⟨x, l, e, h1, h2⟩ := h
    cases e
    exact h1
  | [r], i :: j :: is, v, h => by
    obtain ⟨x, l, e, h1, h2⟩ := h
    simp only [List.map_cons, List.cons.injEq] at e
    obtain ⟨rfl, rfl⟩ := e
    cases h2
  | r :: q :: rs, [], v, h => by obtain ⟨x, l, e, _⟩ := h; cases e
  | r :: q :: rs, [i], v, h => by
    obtain ⟨x, l, e, h1, x2, l2, e2, _⟩ := h
    simp only [List.map_cons, List.map_nil, List.cons.injEq] at e
    obtain ⟨rfl, rfl⟩ := e
    cases e2
  | r :: q :: rs, i :: j :: is, v, h => ⟨_, rfl, h⟩

/- what is written -/
def mutIdx : List PM → Nat → Option Nat
  | [], _ => none
  | .mut _ :: _, i => some i
  | .mutp _ :: _, i => some i
  | .own _ :: ps, i => mutIdx ps (i + 1)
  | .ro _ :: ps, i => mutIdx ps (i + 1)

/- - what stands in the slot that is written through -/
def mutVal : List PM → RI → Value
  | [], ri => ri.val
  | .mut _ :: _, ri => ri.val
  | .mutp _ :: _, ri => .pointer (ri.A.map adr)
  | .own _ :: ps, ri => mutVal ps ri
  | .ro _ :: ps, ri => mutVal ps ri
def mutP : List PM → Bool
  | [] => false
  | .mut _ :: _ => false
  | .mutp _ :: _ => true
  | .own _ :: ps => mutP ps
  | .ro _ :: ps => mutP ps
theorem mutVal_no {ri : RI} : ∀ ps : List PM, mutP ps = false → mutVal ps ri = ri.val
  | [], _ => rfl
  | .mut _ :: _, _ => rfl
  | .mutp _ :: _, h => by cases h
  | .own _ :: ps, h => mutVal_no ps h
  | .ro _ :: ps, h => mutVal_no ps h
theorem mutVal_yes {ri : RI} : ∀ ps : List PM, mutP ps = true → mutVal ps ri = .pointer (ri.A.map adr)
  | [], h => by cases h
  | .mut _ :: _, h => by cases h
  | .mutp _ :: _, h => rfl
  | .own _ :: ps, h => mutVal_yes ps h
  | .ro _ :: ps, h => mutVal_yes ps h

theorem mut_arg {F : Nat → Prop} : ∀ (ps : List PM) (v : PDen ps) (args : List Value) (ris : List RI), ArgsRep F w ps v args ris → ∀ (k i : Nat), mutIdx ps k = some i → ∃ ri t ob, mutRI ps ris = some ri ∧ mutTy ps = some t ∧ args[i - k]? = some (mutVal ps ri) ∧ k ≤ i ∧ ORep F w ρ0 ri ob ∧ (mutP ps = true → ri.n = 1 ∧ ∃ p, ri.A = some p)
  | [], _, _, _, _, k, i, h => by simp [mutIdx] at h
  | .mut t :: ps, v, args, ris, h, k, i, hi => by
    simp only [mutIdx, Option.some.injEq] at hi
    subst hi
    obtain ⟨ri, rs, r, rfl, rfl, h2, h3⟩ := h
    exact ⟨ri, t, _, rfl, rfl, by simp [mutVal], Nat.le_refl _, h2, fun h => by cases h⟩
  | .mutp t :: ps, v, args, ris, h, k, i, hi => by
    simp only [mutIdx, Option.some.injEq] at hi
    subst hi
    obtain ⟨ri, rs, r, p, rfl, rfl, hA, hn1, h2, h3⟩ := h
    exact ⟨ri, t, _, rfl, rfl, by simp [mutVal, hA], Nat.le_refl _, h2, fun _ => ⟨hn1, p, hA⟩⟩
  | .own t :: ps, v, args, ris, h, k, i, hi => by
    obtain ⟨ri, rs, r, rfl, rfl, h2, h3⟩ := h
    obtain ⟨ri', t', ob, g1, g2, g3, g4, g5, g6⟩ := mut_arg ps v.2 r rs h3 (k + 1) i hi
    exact ⟨ri', t', ob, g1, g2, by rw [show i - k = (i - (k + 1)) + 1 by omega]; simpa [mutVal] using g3, by omega, g5, g6⟩
  | .ro t :: ps, v, args, ris, h, k, i, hi => by
    obtain ⟨x, r, rfl, h1, h2, h3⟩ := h
    obtain ⟨ri', t', ob, g1, g2, g3, g4, g5, g6⟩ := mut_arg ps v.2 r ris h3 (k + 1) i hi
    exact ⟨ri', t', ob, g1, g2, by rw [show i - k = (i - (k + 1)) + 1 by omega]; simpa [mutVal] using g3, by omega, g5, g6⟩

theorem mutIdx_none : ∀ (ps : List PM) (k : Nat), mutIdx ps k = none → mutTy ps = none
  | [], _, _ => rfl
  | .mut t :: ps, k, h => by simp [mutIdx] at h
  | .mutp t :: ps, k, h => by simp [mutIdx] at h
  | .own t :: ps, k, h => mutIdx_none ps (k + 1) h
  | .ro t :: ps, k, h => mutIdx_none ps (k + 1) h

theorem readM_at (s : St) : ∀ (ps : List PM) (k i : Nat) {t : Ty}, mutIdx ps k = some i → mutTy ps = some t → ∀ {m : ODen (mutTy ps)}, readM s ps k = some m → ∃ ys : List t.den, (if mutP ps then readP s t i else readO s t i) = some ys ∧ HEq m ys
  | [], _, _, _, h, _, _, _ => by simp [mutIdx] at h
  | .mut t :: ps, k, i, t', h, ht, m, hm => by
    simp only [mutIdx, Option.some.injEq] at h
    simp only [mutTy, Option.some.injEq] at ht
    subst h ht
    exact ⟨m, hm, HEq.rfl⟩
  | .mutp t :: ps, k, i, t', h, ht, m, hm => by
    simp only [mutIdx, Option.some.injEq] at h
    simp only [mutTy, Option.some.injEq] at ht
    subst h ht
    exact ⟨m, hm, HEq.rfl⟩
  | .own t :: ps, k, i, t', h, ht, m, hm => readM_at s ps (k + 1) i h ht hm
  | .ro t :: ps, k, i, t', h, ht, m, hm => readM_at s ps (k + 1) i h ht hm

theorem testM_at (s : St) : ∀ (ps : List PM) (k i : Nat), mutIdx ps k = some i → mutP ps = true → testM s ps k = true → ∃ q o ix ob, s.get i = some ⟨.oad q o, ix⟩ ∧ s.obj q = some ob ∧ onlyB ob.xs.length ix = true
  | [], _, _, h, _, _ => by simp [mutIdx] at h
  | .mut t :: ps, k, i, h, hp, _ => by cases hp
  | .mutp t :: ps, k, i, h, hp, ht => by
    simp only [mutIdx, Option.some.injEq] at h
    subst h
    simp only [testM] at ht
    split at ht
    · rename_i q o ix hq
      split at ht
      · rename_i ob hob; exact ⟨q, o, ix, ob, hq, hob, ht⟩
      · cases ht
    · cases ht
  | .own t :: ps, k, i, h, hp, ht => testM_at s ps (k + 1) i h hp ht
  | .ro t :: ps, k, i, h, hp, ht => testM_at s ps (k + 1) i h hp ht

theorem ownRI_all : ∀ (ps : List PM) (v : PDen ps) (args : List Value) (ris : List RI), ArgsRep F w ps v args ris → mutTy ps = none → ownRI ps ris = ris
  | [], _, _, _, h, _ => by obtain ⟨_, rfl⟩ := h; rfl
  | .ro t :: ps, v, args, ris, h, hm => by
    obtain ⟨x, r, rfl, h1, h2, h3⟩ := h
    have := ownRI_all ps v.2 r ris h3 hm
    simpa [ownRI] using this
  | .mut t :: ps, v, args, ris, h, hm => by simp [mutTy] at hm
  | .mutp t :: ps, v, args, ris, h, hm => by simp [mutTy] at hm
  | .own t :: ps, v, args, ris, h, hm => by
    obtain ⟨ri, rs, r, rfl, rfl, h2, h3⟩ := h
    have := ownRI_all ps v.2 r rs h3 hm
    simp [ownRI, this]

theorem mutRep_of {G : Nat → Prop} {mt : Option Ty} {m : ODen mt} {t : Ty} {ys : List t.den} {o : Option RI} {r : RI} (hm : mt = some t) (he : HEq m ys) (ho : o = some r) (h : ORep G w ρ0 r ⟨t, ys⟩) : MutRep G w mt m o := by
  subst hm
  cases he
  exact ⟨r, ho, h⟩
theorem mutRep_none {G : Nat → Prop} {mt : Option Ty} {m : ODen mt} {o : Option RI} (hm : mt = none) : MutRep G w mt m o := by
  subst hm
  trivial

theorem allRo_nil : ∀ (ps : List PM) (v : PDen ps) (args : List Value) (ris : List RI), allRo ps = true → ArgsRep F w ps v args ris → ris = []
  | [], _, _, _, _, h => h.2
  | .ro t :: ps, v, args, ris, hp, h => by obtain ⟨x, r, rfl, h1, h2, h3⟩ := h; exact allRo_nil ps v.2 r ris hp h3
  | .mut t :: ps, v, args, ris, hp, h => by simp [allRo] at hp
  | .mutp t :: ps, v, args, ris, hp, h => by simp [allRo] at hp
  | .own t :: ps, v, args, ris, hp, h => by simp [allRo] at hp

theorem mut_sz : ∀ (ps : List PM) (v : PDen ps) (args : List Value) (ris : List RI), ArgsRep F w ps v args ris → ∀ {ri t}, mutRI ps ris = some ri → mutTy ps = some t → ri.sz = t.size
  | [], _, _, ris, _, ri, t, h, _ => by cases ris <;> simp [mutRI] at h
  | .mut t :: ps, v, args, ris, h, ri, t', h1, h2 => by
    obtain ⟨r0, rs, r, rfl, rfl, h3, h4⟩ := h
    simp only [mutRI, Option.some.injEq] at h1
    simp only [mutTy, Option.some.injEq] at h2
    subst h1 h2
    exact h3.sz
  | .mutp t :: ps, v, args, ris, h, ri, t', h1, h2 => by
    obtain ⟨r0, rs, r, p, rfl, rfl, hA, hn1, h3, h4⟩ := h
    simp only [mutRI, Option.some.injEq] at h1
    simp only [mutTy, Option.some.injEq] at h2
    subst h1 h2
    exact h3.sz
  | .own t :: ps, v, args, ris, h, ri, t', h1, h2 => by
    obtain ⟨r0, rs, r, rfl, rfl, h3, h4⟩ := h
    exact mut_sz ps v.2 r rs h4 (by simpa [mutRI] using h1) h2
  | .ro t :: ps, v, args, ris, h, ri, t', h1, h2 => by
    obtain ⟨x, r, rfl, h3, h4, h5⟩ := h
    exact mut_sz ps v.2 r ris h5 (by simpa [mutRI] using h1) h2

/- - which slots are never written -/
def noWrite (i : Nat) : Code → Bool
  | .region _ ops _ => ops.toList.all fun o => o.dst != some i
  | .seq a b => noWrite i a && noWrite i b
  | .cond _ a b => noWrite i a && noWrite i b
  | .block _ c => noWrite i c
  | .loop c => noWrite i c
  | _ => true
theorem noWrite_keeps {i : Nat} {v : Value} : ∀ (c : Code), noWrite i c = true → Keeps (fun a => a.tmps[i]? = some v) c := by
  intro c
  induction c with
  | region id ops draw =>
    intro h o ho a val ht
    have h1 := List.all_eq_true.1 h o ho
    simp only [bne_iff_ne, ne_eq] at h1
    cases hd : o.dst with
    | none => exact ht
    | some d =>
      have hne : d ≠ i := fun e => h1 (by rw [hd, e])
      simp only [Act.put, Array.getElem?_setIfInBounds_ne hne]
      exact ht
  | seq x y ihx ihy => intro h; simp only [noWrite, Bool.and_eq_true] at h; exact ⟨ihx h.1, ihy h.2⟩
  | cond c x y ihx ihy => intro h; simp only [noWrite, Bool.and_eq_true] at h; exact ⟨ihx h.1, ihy h.2⟩
  | block id c ih => intro h; exact ih h
  | loop c ih => intro h; exact ih h
  | _ => intro _; trivial
theorem keeps_true : ∀ (c : Code), Keeps (fun _ => True) c := by
  intro c
  induction c with
  | region id ops draw => intro o ho a val ht; trivial
  | seq x y ihx ihy => exact ⟨ihx, ihy⟩
  | cond c x y ihx ihy => exact ⟨ihx, ihy⟩
  | block id c ih => exact ih
  | loop c ih => exact ih
  | _ => trivial

/- - what a function's ways of taking and giving must be -/
def modesOk (c : Ctr) (body : Code) : Bool :=
  (allRo c.ps || c.rs.all RM.flat) && ((mutIdx c.ps 0).isNone || nOwn c.rs == 0) && (c.ps.all PM.mutFlat) &&
    (match mutIdx c.ps 0 with | some i => noWrite i body | none => true)

/- - A FUNCTION -/
theorem fun_ok {f : Nat} {c : Ctr} {fn : Func} {body : Code} {is : List Nat} {H : Nat → Option LH} {fuel : Nat} (hT : TabOk P tb) (hΓ : CtrsOk P Γ) (hm : P.follows .mixedOrders = true) (hf : P.funcs[f]? = some fn) (hb : fn.body = some body)
    (hres : fn.results = (is.map ResultVar.tmp).toArray) (hps : modesOk c body = true) (hg : ∀ v r, c.g v = some r → semF tb Γ H fuel fn.ntmps body c.ps c.rs is v = some r) : c.Ok P f := by
  intro v r hgv w F args ris hF ha hap hd
  simp only [modesOk, Bool.and_eq_true] at hps
  obtain ⟨⟨⟨m1, m2⟩, m3⟩, m4⟩ := hps
  refine calls_of_wp hf hb ?_
  have hs := hg v r hgv
  have hi := init_rel hF ha hap hd fn.ntmps
  simp only [List.size_toArray]
  -- the slot that is written through stays
  have hT0 : ∃ T : Act → Prop, Keeps T body ∧ T { tmps := args.toArray ++ Array.replicate (fn.ntmps - args.length) undef, defers := [] } ∧ ∀ a, T a → ∀ i, mutIdx c.ps 0 = some i → ∀ ri, mutRI c.ps ris = some ri → a.tmps[i]? = some (mutVal c.ps ri) := by
    cases hmi : mutIdx c.ps 0 with
    | none => exact ⟨fun _ => True, keeps_true body, trivial, fun _ _ i h => by cases h⟩
    | some i =>
      rw [hmi] at m4
      obtain ⟨ri, t, ob, g1, g2, g3, g4, g5, _⟩ := mut_arg c.ps v args ris ha 0 i hmi
      refine ⟨fun a => a.tmps[i]? = some (mutVal c.ps ri), noWrite_keeps body m4, ?_, fun a h j hj ri' hri' => ?_⟩
      · simp only [Nat.sub_zero] at g3
        have hlt : i < args.length := by
          rcases Nat.lt_or_ge i args.length with h | h
          · exact h
          · rw [List.getElem?_eq_none h] at g3; cases g3
        simp [Array.getElem?_append, hlt] at g3 ⊢
        simpa [hlt] using g3
      · cases hj; rw [g1] at hri'; cases hri'; exact h
  obtain ⟨T, hk, ht, hT1⟩ := hT0
  refine sem_law hT hΓ hm body hk hs hi ht fun e s' F' ρ' a' w' hK hr hta => ?_
  have fin : ∀ x, pack fn.ntmps s' (mutTpl c.rs is c.ps 0) = some x → testM (unpack fn.ntmps (mutTpl c.rs is c.ps 0) x) c.ps 0 = true → readM (unpack fn.ntmps (mutTpl c.rs is c.ps 0) x) c.ps 0 = some r.1 → readR (unpack fn.ntmps (mutTpl c.rs is c.ps 0) x) c.rs is = some r.2 →
      a'.defers = [] ∧ ∃ v, (results fn a'.tmps).run P w' = .ok v w' ∧ (∃ (val : Value) (Fn : Nat → Prop), Ending.returned v = .returned val ∧ Kept (Blk ris) w w' ∧ (∀ b, Fn b → w.heap.size ≤ b ∧ b < w'.heap.size) ∧
        ResRep (fun b => F b ∨ Fn b) w' (fun b => ¬ Fn b ∧ (w.heap.size ≤ b ∨ Blk (ownRI c.ps ris) b)) c.rs r.2 val ∧ MutRep (fun b => F b ∨ Fn b) w' (mutTy c.ps) r.1 (mutRI c.ps ris)) := fun x hx htm hrm hrd => by
    obtain ⟨F2, ρ2, h2⟩ := pack_law hr hx
    refine ⟨hr.defers, _, results_run hres a'.tmps, _, fun b => F2 b ∧ w.heap.size ≤ b, rfl, hr.kept.mono fun k _ hk => blk_of_zero hk, fun b hb => ⟨hb.2, h2.lt b hb.1⟩, ?_, ?_⟩
    · refine resRep_of c.rs is (readR_law h2 c.rs ?_ ?_ is hrd)
      · rcases Bool.or_eq_true _ _ |>.mp m1 with m1 | m1
        · left
          intro b hb
          rcases h2.frm b hb with h5 | h5 | h5
          · exact .inl h5
          · exact .inr ⟨hb, h5⟩
          · obtain ⟨ri, h6, _⟩ := blk_zero h5
            exact absurd h6 (by rw [allRo_nil c.ps v args ris m1 ha]; simp)
        · exact .inr m1
      · rcases Bool.or_eq_true _ _ |>.mp m2 with m2 | m2
        · right
          intro b h3 h4
          refine ⟨fun h5 => h3 h5.1, ?_⟩
          rcases h4 with h4 | h4
          · exact .inl h4
          · right
            rw [ownRI_all c.ps v args ris ha (mutIdx_none c.ps 0 (by simpa using m2))]
            exact blk_of_zero h4
        · left; simpa using m2
    · cases hmi : mutIdx c.ps 0 with
      | none => exact mutRep_none (mutIdx_none c.ps 0 hmi)
      | some i =>
        obtain ⟨ri, t, ob0, g1, g2, g3, g4, g5, g6⟩ := mut_arg c.ps v args ris ha 0 i hmi
        have hpin := hT1 a' hta i hmi ri g1
        obtain ⟨ys, y1, y2⟩ := readM_at _ c.ps 0 i hmi g2 hrm
        refine mutRep_of g2 y2 g1 ?_
        cases hmp : mutP c.ps with
        | true =>
          rw [hmp, if_pos rfl] at y1
          rw [mutVal_yes c.ps hmp] at hpin
          obtain ⟨hn1, p, hA⟩ := g6 hmp
          obtain ⟨q, o0, ix, ob, t1, t2, t3⟩ := testM_at _ c.ps 0 i hmi hmp htm
          simp only [readP] at y1
          split at y1
          · rename_i q1 ix1 hq
            rw [t1] at hq; cases hq
            split at y1
            · rename_i ob1 hob
              rw [t2] at hob; cases hob
              have hq := t1
              have hob := t2
              split at y1
              · rename_i htt
                have hon := t3
                · simp only [onlyB, Bool.and_eq_true, decide_eq_true_eq] at hon
                  obtain ⟨ho1, ho2⟩ := hon
                  subst ho2
                  cases y1
                  subst htt
                  obtain ⟨val, k1, _, ri', p', k2, k3, k4⟩ := h2.slot i _ hq
                  rw [hpin] at k1; cases k1
                  obtain ⟨ri2, k5, k6⟩ := h2.obj q ob hob
                  rw [k2] at k5; cases k5
                  have hpp : p = p' := by
                    rw [hA] at k4
                    simp only [Option.map_some, adr, List.cons.injEq, Value.pointer.injEq, Option.some.injEq, Addr.mk.injEq, and_true] at k4
                    obtain ⟨p1, p2⟩ := p
                    obtain ⟨q1, q2⟩ := p'
                    simp only [Int.toNat_zero, Nat.zero_mul, Nat.add_zero] at k4
                    rw [k4.1, k4.2]
                  subst hpp
                  have hflat : ob.t.flat = true := mutFlat_of c.ps ob.t m3 g2
                  have k7 : ORep (fun b => F b ∨ (F2 b ∧ w.heap.size ≤ b)) w' ρ0 ri' ob := ORep.flat0 hflat (ORep.pure0 k6)
                  have hszt : ri.sz = ob.t.size := mut_sz c.ps v args ris ha g1 g2
                  have hszt' : ri'.sz = ob.t.size := k7.sz
                  refine ⟨by rw [hn1]; exact ho1.symm, hszt, g5.le, k7.pure, fun h => (by rw [hA] at h; cases h), g5.raw, fun p2 hp2 => ?_, fun p2 hp2 j y hj => ?_⟩
                  · rw [hA] at hp2; cases hp2
                    obtain ⟨cells, el, b1, b2⟩ := g5.block p hA
                    obtain ⟨cells', b3, b4⟩ := hr.kept.len _ _ _ _ b1
                    exact ⟨cells', el, b3, by rw [b4]; exact b2⟩
                  · rw [hA] at hp2; cases hp2
                    have := k7.cells p k3 j y hj
                    rwa [hszt', ← hszt] at this
              · cases y1
            · cases y1
          · cases y1
        | false =>
        rw [hmp, if_neg (by simp)] at y1
        rw [mutVal_no c.ps hmp] at hpin
        simp only [readO] at y1
        split at y1
        · rename_i q u hq
          split at y1
          · rename_i ob hob
            split at y1
            · rename_i htt
              cases y1
              subst htt
              obtain ⟨val, k1, _, ri', k2, k3⟩ := h2.slot i _ hq
              rw [hpin] at k1; cases k1
              obtain ⟨ri2, k4, k5⟩ := h2.obj q ob hob
              rw [k2] at k4; cases k4
              have k6 : ri.val = ri'.val := by simpa using k3
              have hflat : ob.t.flat = true := mutFlat_of c.ps ob.t m3 g2
              have k7 : ORep (fun b => F b ∨ (F2 b ∧ w.heap.size ≤ b)) w' ρ0 ri' ob := ORep.flat0 hflat (ORep.pure0 k5)
              obtain ⟨A, raw, n, cc, sz⟩ := ri
              obtain ⟨A', raw', n', cc', sz'⟩ := ri'
              simp only [RI.val, Value.slice.injEq] at k6
              obtain ⟨rfl, rfl, rfl⟩ := k6
              have hszt : sz = ob.t.size := by
                have := mut_sz c.ps v args ris ha g1 g2
                exact this
              have hszt' : sz' = ob.t.size := k7.sz
              by_cases hc : cc = 0
              · have hn0 : ob.xs.length = 0 := by
                  have a1 : n = ob.xs.length := k7.n
                  have a2 : n ≤ cc := k7.le
                  omega
                refine ⟨k7.n, hszt, k7.le, k7.pure, fun _ => hc, .inl hc, fun p hA => ?_, fun p hA j y hj => ?_⟩
                · obtain ⟨cells, el, b1, b2⟩ := g5.block p hA
                  refine ⟨cells, el, ?_, ?_⟩
                  · have hlt : p.1 < w.heap.size := by
                      rcases Nat.lt_or_ge p.1 w.heap.size with h | h
                      · exact h
                      · rw [Array.getElem?_eq_none h] at b1; cases b1
                    rw [hr.kept.block p.1 hlt (fun hb => ?_)]
                    · exact b1
                    · obtain ⟨r3, c1, c2, p3, c3, c4⟩ := blk_zero hb
                      obtain ⟨j1, hj1, e1⟩ := List.getElem_of_mem (mutRI_mem c.ps ris _ g1)
                      obtain ⟨j2, hj2, e2⟩ := List.getElem_of_mem c1
                      have := apart_idx ris hap (i := j1) (j := j2) (by rw [List.getElem?_eq_getElem hj1, e1]) (by rw [List.getElem?_eq_getElem hj2, e2]) hA c3 c4.symm
                      subst this
                      rw [e1] at e2
                      subst e2
                      exact c2 hc
                  · exact b2
                · have : ob.xs = [] := List.length_eq_zero_iff.1 hn0
                  rw [this] at hj; simp at hj
              · have hA : A = A' := by
                  have r1 : cc = 0 ∨ raw = A.map adr := g5.raw
                  have r2 : cc = 0 ∨ raw = A'.map adr := k7.raw
                  have r1 := r1.resolve_left hc
                  have r2 := r2.resolve_left hc
                  rw [r1] at r2
                  cases A with
                  | none => cases A' with
                    | none => rfl
                    | some q => cases r2
                  | some p => cases A' with
                    | none => cases r2
                    | some q =>
                      simp only [Option.map_some, Option.some.injEq, adr, Addr.mk.injEq] at r2
                      obtain ⟨p1, p2⟩ := p
                      obtain ⟨q1, q2⟩ := q
                      simp only at r2
                      rw [r2.1, r2.2.1]
                subst hA
                rw [hszt, ← hszt']
                exact k7
            · cases y1
          · cases y1
        · cases y1
  cases e with
  | normal =>
    simp only [funK] at hK
    split at hK
    · rename_i x hx
      cases htm : testM (unpack fn.ntmps (mutTpl c.rs is c.ps 0) x) c.ps 0 with
      | false => rw [htm] at hK; cases hK
      | true =>
      rw [htm, cond_true] at hK
      split at hK
      · rename_i m q hm' hq; cases hK; exact fin x hx htm hm' hq
      · cases hK
    · cases hK
  | exit n => simp [funK] at hK
  | ret =>
    simp only [funK] at hK
    split at hK
    · rename_i x hx
      cases htm : testM (unpack fn.ntmps (mutTpl c.rs is c.ps 0) x) c.ps 0 with
      | false => rw [htm] at hK; cases hK
      | true =>
      rw [htm, cond_true] at hK
      split at hK
      · rename_i m q hm' hq; cases hK; exact fin x hx htm hm' hq
      · cases hK
    · cases hK

end Go.Vs
