/- Value semantics, part 10: slices of slices, what make makes, closures, arithmetic. -/
import Derived.Test.YtaeobljnmfbdmaaVuLaw4
set_option linter.unusedVariables false
namespace Go.Vu
open Go
variable {P : Program} {tb : Tab} {R : Type} {F0 : Bs} {M F : Nat → Prop} {W0 w w' : World} {ρ : RK → Option RI} {s : St} {a : Act} {m : Nat → Nat → Option Value} {id : Nat}
theorem bound_run {x : Value} {k : IntKind} {i : Int} {y : Nat} {c : BoundsCode} (hx : x = .int k i) (h0 : 0 ≤ i) (h1 : i ≤ y) : (Instr.sliceBound x y c).run P w = .ok i.toNat w := by
 subst hx
 simp [Instr.sliceBound, asIntOf, h0, h1]
theorem bnd_ops (h : RelAt F0 M W0 F ρ s a w) {lo hi : Option Operand} {n A B : Int} (hb : bnd s lo hi n = some (A, B)) :
  ((lo = none ∧ A = 0) ∨ ∃ x k, lo = some x ∧ a.eval x = .int k A) ∧ ((hi = none ∧ B = n) ∨ ∃ x k, hi = some x ∧ a.eval x = .int k B) := by
 unfold bnd at hb
 split at hb
 ·rename_i a' b' h1 h2
  cases hb
  constructor
  ·cases lo with
   | none => simp only [Option.some.injEq] at h1; exact .inl ⟨rfl, h1.symm⟩
   | some x =>
    simp only at h1
    split at h1
    ·rename_i k i hx
     cases h1
     exact .inr ⟨x, k, rfl, evInt h hx⟩
    ·cases h1
  ·cases hi with
   | none => simp only [Option.some.injEq] at h2; exact .inl ⟨rfl, h2.symm⟩
   | some x =>
    simp only at h2
    split at h2
    ·rename_i k i hx
     cases h2
     exact .inr ⟨x, k, rfl, evInt h hx⟩
    ·cases h2
 ·cases hb
theorem bnd_runq (h : RelAt F0 M W0 F ρ s a w) {lo hi : Option Operand} {n A B : Int} {len cap : Nat} {f : Bool} {q : Int} (hb : bnd s lo hi n = some (A, B)) (hn : n = len) (hc : len ≤ cap) (hq : q ≤ cap) (hi' : inB A B q = true) :
  (Instr.sliceBounds f len cap (lo.map a.eval) (hi.map a.eval) none).run P w = .ok (A.toNat, B.toNat, cap) w := by
 simp only [inB, Bool.and_eq_true, decide_eq_true_eq] at hi'
 obtain ⟨g0, g1, g2⟩ := hi'
 obtain ⟨h1, h2⟩ := bnd_ops h hb
 have r1 : ∀ {x : Operand} {k : IntKind} {q : Nat} {c : BoundsCode}, a.eval x = .int k A → B.toNat = q → (Instr.sliceBound (a.eval x) q c).run P w = .ok A.toNat w := fun hx hq => bound_run hx g0 (by omega)
 have r2 : ∀ {x : Operand} {k : IntKind} {c : BoundsCode}, a.eval x = .int k B → (Instr.sliceBound (a.eval x) cap c).run P w = .ok B.toNat w := fun hx => bound_run hx (by omega) (by omega)
 rcases h1 with ⟨rfl, rfl⟩ | ⟨x, k, rfl, hx⟩ <;> rcases h2 with ⟨rfl, rfl⟩ | ⟨y, k', rfl, hy⟩
 ·simp only [Instr.sliceBounds, Option.map_none, Sem.run_bind, Sem.run_pure, Result.andThen_ok]
  congr 1; simp; omega
 ·simp only [Instr.sliceBounds, Option.map_none, Option.map_some, Sem.run_bind, Sem.run_pure, Result.andThen_ok, r2 hy]
  simp
 ·simp only [Instr.sliceBounds, Option.map_none, Option.map_some, Sem.run_bind, Sem.run_pure, Result.andThen_ok, r1 (q := len) hx (by omega)]
  congr 1; simp; omega
 ·simp only [Instr.sliceBounds, Option.map_some, Sem.run_bind, Sem.run_pure, Result.andThen_ok, r2 hy, r1 hx rfl]
theorem bnd_run (h : RelAt F0 M W0 F ρ s a w) {lo hi : Option Operand} {n A B : Int} {len cap : Nat} {f : Bool} (hb : bnd s lo hi n = some (A, B)) (hn : n = len) (hc : len ≤ cap) (hi' : inB A B n = true) :
  (Instr.sliceBounds f len cap (lo.map a.eval) (hi.map a.eval) none).run P w = .ok (A.toNat, B.toNat, cap) w :=
 bnd_runq h hb hn hc (by omega) hi'
theorem cut_length {α : Type} {xs : List α} {A B : Int} (h : inB A B xs.length = true) : (cut xs A B).length = (B - A).toNat := by
 simp only [inB, Bool.and_eq_true, decide_eq_true_eq] at h
 simp only [cut, List.length_take, List.length_drop]; omega
theorem cut_get {α : Type} {xs : List α} {A B : Int} {i : Nat} {x : α} (h : (cut xs A B)[i]? = some x) : xs[A.toNat + i]? = some x := by
 unfold cut at h
 rw [List.getElem?_take] at h
 split at h
 ·simpa [List.getElem?_drop] using h
 ·cases h
theorem sliceAt_run {t el : Nat} {inf : TypeInfo} (hu : P.underlying t = some (.slice el)) (hi : P.info? el = some inf) {A : Option Addr} {n c l h m : Nat} {lo hi' : Option Value}
  (hb : (Instr.sliceBounds true n c lo hi' none).run P w = .ok (l, h, m) w) :
  (Instr.sliceAt t (.slice A n c) lo hi' none).run P w = .ok (.slice (if m = l then A else A.map (·.add (l * inf.size))) (h - l) (m - l)) w := by
 simp only [Instr.sliceAt, Sem.run_bind, run_underlying hu, Result.andThen_ok, Instr.slice, hb, run_sizeOf hi, Sem.run_pure]
theorem tab_slice (hT : TabOk P tb) {t e : Nat} {ti te : TI} (h : tb.get t = some ti) (hk : ti.kd = .slice e) (he : tb.get e = some te) : P.underlying t = some (.slice e) ∧ ∃ inf, P.info? e = some inf ∧ inf.size = te.sz ∧ inf.bytes = te.bys := by
 have hu := (hT t ti h).und
 rw [hk] at hu
 obtain ⟨inf, h1, h2, h3, _⟩ := (hT e te he).info
 exact ⟨hu, inf, h1, h2, h3⟩
theorem slice_op (hT : TabOk P tb) (h : RelAt F0 M W0 F ρ s a w) {t : Nat} {x : Operand} {lo hi mx : Option Operand} {e : Eff R} (he : opSlice tb t x lo hi mx s = some e) :
  Done P F0 M W0 a w id e (Instr.sliceAt t (a.eval x) (lo.map a.eval) (hi.map a.eval) (mx.map a.eval)) := by
 unfold opSlice at he
 cases mx with
 | some _ => cases he
 | none =>
  simp only [Option.map_none] at he ⊢
  split at he
  ·rename_i ti xs hti hx
   split at he
   ·rename_i A B hk hb
    cases he
    have hu := (hT t ti hti).und
    rw [hk] at hu
    have hx' := evStr h hx
    refine done_one h fun u hu' => ?_
    simp only [Cnd.map, Cnd.test] at hu'
    cases hin : inB A B (List.length xs) with
    | false => simp [hin] at hu'
    | true =>
     simp only [hin, cond_true, Option.map_some, Option.some.injEq] at hu'
     subst hu'
     have hsz : (⟨List.toArray xs⟩ : ByteArray).size = List.length xs := by simp [ByteArray.size]
     have hr := bnd_run (P := P) (f := false) h (len := List.length xs) (cap := List.length xs) hb rfl (Nat.le_refl _) hin
     refine ⟨.string ⟨(cut xs A B).toArray⟩, ?_, ⟨rfl, rfl⟩⟩
     simp only [Instr.sliceAt, Sem.run_bind, run_underlying hu, Result.andThen_ok, Instr.slice, hx', Option.isSome_none, Bool.false_eq_true, if_false, hsz, hr, Sem.run_pure]
     congr 2
     simp only [inB, Bool.and_eq_true, decide_eq_true_eq] at hin
     rw [ByteArray.ext_iff, ByteArray.data_extract]
     apply Array.ext'
     simp only [Array.toList_extract, cut, List.extract_eq_take_drop]
     congr 1
     omega
   ·cases he
  ·rename_i ti T xs hti hx
   split at he
   ·rename_i e' A B hk hb
    split at he
    ·rename_i te hte
     split at he
     ·rename_i hsz
      cases he
      obtain ⟨hu, inf, h1, h2, _⟩ := tab_slice hT hti hk hte
      obtain ⟨A0, n, c, h3, h4, h5, h6⟩ := evSlice h hx
      refine done_one h fun u hu' => ?_
      simp only [Cnd.map, Cnd.test] at hu'
      cases hin : inB A B (List.length xs) with
      | false => simp [hin] at hu'
      | true =>
       simp only [hin, cond_true, Option.map_some, Option.some.injEq] at hu'
       subst hu'
       have hr := bnd_run (P := P) (f := true) h (len := n) (cap := c) hb (by rw [h4]) h5 hin
       refine ⟨_, by rw [h3]; exact sliceAt_run hu h1 hr, ?_⟩
       have hin' := hin
       simp only [inB, Bool.and_eq_true, decide_eq_true_eq] at hin'
       refine RepV.of (t := .slice T) ⟨rfl, _, _, _, rfl, ?_, ?_, fun h0 => ?_⟩
       ·rw [cut_length hin]; omega
       ·omega
       ·obtain ⟨p, hp, hF, hcell⟩ := h6 (by omega)
        subst hp
        have hs' : inf.size = T.size := by rw [h2]; simpa using hsz
        refine ⟨(p.1, p.2 + A.toNat * T.size), ?_, hF, fun i y hi => ?_⟩
        ·rw [if_neg (by omega), Option.map_some, adr_add, hs']
        ·obtain ⟨ds, h7, h8⟩ := hcell _ _ (cut_get hi)
         refine ⟨ds, ?_, h8⟩
         rwa [Nat.add_mul, ← Nat.add_assoc] at h7
     ·cases he
    ·cases he
   ·cases he
  ·rename_i ti r v hti hx
   split at he
   ·rename_i ob hob
    split at he
    ·rename_i e' A B hk hb
     split at he
     ·rename_i te hte
      split at he
      ·rename_i hsz
       cases he
       obtain ⟨hu, inf, h1, h2, _⟩ := tab_slice hT hti hk hte
       obtain ⟨ri, h3, h4⟩ := evOw h hx
       obtain ⟨ri', h3', ho⟩ := h.obj r ob hob
       rw [h3] at h3'; cases h3'
       refine done_one h fun u hu' => ?_
       simp only [Cnd.map, Cnd.test] at hu'
       cases hin : inB A B (List.length ob.xs) with
       | false => simp [hin] at hu'
       | true =>
        simp only [hin, cond_true, Option.map_some, Option.some.injEq] at hu'
        subst hu'
        have hr := bnd_run (P := P) (f := true) h (len := ri.n) (cap := ri.c) hb (by rw [ho.n]) ho.le hin
        refine ⟨_, by rw [h4]; exact sliceAt_run hu h1 hr, ?_⟩
        simp only [inB, Bool.and_eq_true, decide_eq_true_eq] at hin
        have hn := ho.n
        have hle := ho.le
        refine RepV.of (t := .osl r) ⟨rfl, ri, h3, (if ri.c = A.toNat then ri.raw else ri.raw.map (·.add (A.toNat * inf.size))), ri.c - A.toNat, ?_, ?_, ?_, ?_, ?_, ?_⟩
        ·rw [show (B - A).toNat = B.toNat - A.toNat by omega]
        ·show (B - A).toNat ≤ _; omega
        ·show A.toNat + _ ≤ _; omega
        ·show A.toNat + (B - A).toNat ≤ _; omega
        ·by_cases e : ri.c = A.toNat
         ·left; omega
         ·right
          cases hA : ri.A with
          | none => have := ho.none hA; omega
          | some p =>
           have hs' : inf.size = ri.sz := by rw [h2, ho.sz]; simpa using hsz
           exact ⟨p, rfl, by rw [if_neg e, ho.raw.resolve_left (by omega), hA, Option.map_some, Option.map_some, adr_add, hs']⟩
        ·show ri.n ≤ A.toNat + (ri.c - A.toNat); omega
      ·cases he
     ·cases he
    ·cases he
   ·cases he
  ·rename_i ti r v hti hx
   split at he
   ·rename_i ob hob
    split at he
    ·rename_i e' A B hk hb
     split at he
     ·rename_i te hte
      split at he
      ·rename_i hsz
       cases he
       obtain ⟨hu, inf, h1, h2, _⟩ := tab_slice hT hti hk hte
       obtain ⟨ri, A0, c0, h3, h4, h5, h6, h7, h8, h10⟩ := evOsl h hx
       obtain ⟨ri', h3', ho⟩ := h.obj r ob hob
       rw [h3] at h3'; cases h3'
       obtain ⟨v1, v2⟩ : Nat × Nat := v
       simp only at h4 h5 h6 h7 h8 h10 hb
       refine done_one h fun u hu' => ?_
       simp only [Cnd.map, Cnd.test] at hu'
       cases hin : inB A B ((ob.xs.length - v1 : Nat) : Int) with
       | false => simp [hin] at hu'
       | true =>
        simp only [hin, cond_true, Option.map_some, Option.some.injEq] at hu'
        subst hu'
        have hr := bnd_runq (P := P) (f := true) h (len := v2) (cap := c0) hb rfl h5 (by have := ho.n; omega) hin
        refine ⟨_, by rw [h4]; exact sliceAt_run hu h1 hr, ?_⟩
        simp only [inB, Bool.and_eq_true, decide_eq_true_eq] at hin
        have hn := ho.n
        have hle := ho.le
        refine RepV.of (t := .osl r) ⟨rfl, ri, h3, (if c0 = A.toNat then A0 else A0.map (·.add (A.toNat * inf.size))), c0 - A.toNat, ?_, ?_, ?_, ?_, ?_, ?_⟩
        ·rw [show (B - A).toNat = B.toNat - A.toNat by omega]
        ·show (B - A).toNat ≤ _; omega
        ·show v1 + A.toNat + _ ≤ _; omega
        ·show v1 + A.toNat + (B - A).toNat ≤ _; omega
        ·rcases h8 with h8 | ⟨p, h8, h9⟩
         ·left; omega
         ·by_cases e : c0 = A.toNat
          ·left; omega
          ·right
           subst h9
           have hs' : inf.size = ri.sz := by rw [h2, ho.sz]; simpa using hsz
           refine ⟨p, h8, ?_⟩
           rw [if_neg e, Option.map_some, adr_add, hs']
           show some (adr (p.1, p.2 + v1 * ri.sz + A.toNat * ri.sz)) = some (adr (p.1, p.2 + (v1 + A.toNat) * ri.sz))
           rw [Nat.add_mul, Nat.add_assoc]
        ·show ri.n ≤ v1 + A.toNat + (c0 - A.toNat); omega
      ·cases he
     ·cases he
    ·cases he
   ·cases he
  ·rename_i ti pn v hti hx
   split at he
   ·rename_i q hq
    split at he
    ·rename_i e' A B hk hb
     split at he
     ·rename_i te hte
      split at he
      ·rename_i hsz
       cases he
       obtain ⟨hu, inf, h1, h2, _⟩ := tab_slice hT hti hk hte
       refine done_one h fun u hu' => ?_
       simp only [Cnd.look] at hu'
       rcases evPsl h hx with ⟨rfl, h3⟩ | ⟨j, vv, rfl, ri, h3, A0, c0, h4, h5, h6, h7, h8, h10⟩
       ·simp only [hsl] at hu'
        split at hu'
        ·rename_i hin0
         cases hu'
         have hin : inB A B 0 = true := by simp only [inB, Bool.and_eq_true, decide_eq_true_eq]; exact hin0
         have hr := bnd_run (P := P) (f := true) h (len := 0) (cap := 0) hb rfl (Nat.le_refl _) hin
         refine ⟨_, by rw [h3]; exact sliceAt_run hu h1 hr, ?_⟩
         refine RepV.of (t := .psl pn) ⟨rfl, .inl ⟨rfl, ?_⟩⟩
         have e1 : A.toNat = 0 := by omega
         have e2 : B.toNat = 0 := by omega
         simp [e1, e2]
        ·cases hu'
       ·obtain ⟨v1, v2⟩ : Nat × Nat := vv
        simp only [hlen] at h4 h5 h6 h7 h8 h10 hb
        simp only [hsl] at hu'
        split at hu'
        ·rename_i xs hxs
         split at hu'
         ·rename_i hin0
          cases hu'
          obtain ⟨ri', h3', ho⟩ := h.obj (.pl pn j) _ (obj_pl hq hxs)
          rw [h3] at h3'; cases h3'
          have hn : ri.n = xs.length := ho.n
          have hin : inB A B ((xs.length - v1 : Nat) : Int) = true := by simp only [inB, Bool.and_eq_true, decide_eq_true_eq]; exact hin0
          have hr := bnd_runq (P := P) (f := true) h (len := v2) (cap := c0) hb rfl h5 (by omega) hin
          refine ⟨_, by rw [h4]; exact sliceAt_run hu h1 hr, ?_⟩
          have hle := ho.le
          refine RepV.of (t := .psl pn) ⟨rfl, .inr ⟨j, (v1 + A.toNat, (B - A).toNat), rfl, ri, h3, (if c0 = A.toNat then A0 else A0.map (·.add (A.toNat * inf.size))), c0 - A.toNat, ?_, ?_, ?_, ?_, ?_, ?_⟩⟩
          ·rw [show (B - A).toNat = B.toNat - A.toNat by omega]
          ·show (B - A).toNat ≤ _; omega
          ·show v1 + A.toNat + _ ≤ _; omega
          ·show v1 + A.toNat + (B - A).toNat ≤ _; omega
          ·rcases h8 with h8 | ⟨p, h8, h9⟩
           ·left; omega
           ·by_cases e : c0 = A.toNat
            ·left; omega
            ·right
             subst h9
             have hs' : inf.size = ri.sz := by rw [h2, ho.sz]; simpa using hsz
             refine ⟨p, h8, ?_⟩
             rw [if_neg e, Option.map_some, adr_add, hs']
             show some (adr (p.1, p.2 + v1 * ri.sz + A.toNat * ri.sz)) = some (adr (p.1, p.2 + (v1 + A.toNat) * ri.sz))
             rw [Nat.add_mul, Nat.add_assoc]
          ·show ri.n ≤ v1 + A.toNat + (c0 - A.toNat); omega
         ·cases hu'
        ·cases hu'
      ·cases he
     ·cases he
    ·cases he
   ·cases he
  ·rename_i ti u hti hx
   split at he
   ·rename_i e' A B hk hb
    split at he
    ·rename_i te hte
     cases he
     obtain ⟨hu, inf, h1, h2, _⟩ := tab_slice hT hti hk hte
     have h3 := evNils h hx
     refine done_one h fun u hu' => ?_
     simp only [Cnd.map, Cnd.test] at hu'
     cases hin : inB A B 0 with
     | false => simp [hin] at hu'
     | true =>
      have hr := bnd_run (P := P) (f := true) h (len := 0) (cap := 0) hb rfl (Nat.le_refl _) hin
      refine ⟨_, by rw [h3]; exact sliceAt_run hu h1 hr, ?_⟩
      have hin' := hin
      simp only [inB, Bool.and_eq_true, decide_eq_true_eq] at hin'
      refine RepV.of (t := .nils) ⟨rfl, ?_⟩
      simp [Rep]
      omega
    ·cases he
   ·cases he
  ·cases he
end Go.Vu
