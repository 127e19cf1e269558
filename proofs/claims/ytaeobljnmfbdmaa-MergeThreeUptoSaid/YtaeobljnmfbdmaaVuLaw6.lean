/- Value semantics, part 11: what make makes, closures, arithmetic, lengths. -/
import Derived.Test.YtaeobljnmfbdmaaVuLaw5
set_option linter.unusedVariables false
namespace Go.Vu
open Go
variable {P : Program} {tb : Tab} {R : Type} {F0 : Bs} {M F : Nat → Prop} {W0 w w' : World} {ρ : RK → Option RI} {s : St} {a : Act} {m : Nat → Nat → Option Value} {id : Nat}
theorem wrap_small {n : Int} (h0 : 0 ≤ n) (h1 : n ≤ 140737488355328) : IntKind.i64.wrap n = n := by
 simp only [IntKind.wrap, IntKind.signed, IntKind.bits]
 simp
 omega
theorem pure_notAny {t : Ty} (h : t.pure = true) : isAny t = false := by
 cases t <;> simp [Ty.pure, isAny] at h ⊢
theorem mkOk_facts {b : Nat} {n q : Int} (hb : 0 < b) (hk : mkOk b n q = true) : 0 ≤ n ∧ n ≤ q ∧ IntKind.i64.wrap n = n ∧ IntKind.i64.wrap q = q ∧
  ((decide (q < 0) || decide ((b : Int) * q > 2 ^ 48)) || decide (n < 0) || decide (n > q)) = false ∧ ¬ (q.toNat * b > roomBytes) := by
 simp only [mkOk, Bool.and_eq_true, decide_eq_true_eq] at hk
 obtain ⟨g0, g1, g2⟩ := hk
 have g3 : q ≤ 140737488355328 := by
  have : (1 : Int) * q ≤ (b : Int) * q := Int.mul_le_mul_of_nonneg_right (by omega) (by omega)
  omega
 have h6 : ((q.toNat * b : Nat) : Int) = (b : Int) * q := by
  rw [Int.natCast_mul, Int.toNat_of_nonneg (by omega), Int.mul_comm]
 refine ⟨g0, g1, wrap_small g0 (by omega), wrap_small (by omega) g3, ?_, ?_⟩
 ·have : ((2 : Int) ^ 48) = 281474976710656 := by decide
  simp only [Bool.or_eq_false_iff, decide_eq_false_iff_not, this]
  refine ⟨⟨⟨?_, ?_⟩, ?_⟩, ?_⟩ <;> omega
 ·have : roomBytes = 140737488355328 := by decide
  rw [this]; omega
theorem makeSlice_law (hT : TabOk P tb) (h : RelAt F0 M W0 F ρ s a w) (hf : ol s.objs id = none) {t : Nat} {l c : Operand} {e : Eff R} (he : opMakeSlice tb t l c id s = some e) :
  Done P F0 M W0 a w id e (Instr.makeSlice t (a.eval l) (a.eval c)) := by
 unfold opMakeSlice at he
 split at he
 ·rename_i e' n q hel hl hc
  split at he
  ·rename_i hp
   simp only [Bool.and_eq_true, beq_iff_eq, decide_eq_true_eq] at hp
   obtain ⟨⟨hp, hsz⟩, hby⟩ := hp
   obtain ⟨el, inf, h1, h2, h3, h4, h5⟩ := elemOf_law hT hel
   obtain ⟨inf', i1, i2, i3, i4⟩ := h2.info
   rw [h3] at i1; cases i1
   obtain ⟨z, hz, hz'⟩ := i4 (pure_notAny hp)
   have hl' := evInt h hl
   have hc' := evInt h hc
   split at he
   ·rename_i hsm
    cases he
    refine done_new h hf (Ty.hold_of_pure _ hp) fun u hu => ?_
    simp only [Cnd.map, Cnd.test] at hu
    cases hk : mkOk e'.bys n q with
    | false => simp [hk] at hu
    | true =>
     simp only [hk, cond_true, Option.map_some, Option.some.injEq] at hu
     subst hu
     obtain ⟨g0, g1, w1, w2, t5, t4⟩ := mkOk_facts hby hk
     have g1' : Int.toNat n ≤ Int.toNat q := Int.toNat_le_toNat g1
     have hr := (hz' F (mem w) ρ).cells
     have hzl := Rep.length _ _ _ hr
     simp only [Array.length_toList] at hzl
     refine ⟨.slice (some (adr (w.heap.size, 0))) (Int.toNat n) (Int.toNat q), w, (Array.range (Int.toNat q * inf.size)).map ((if Int.toNat q * inf.size = 0 then #[] else z.cells)[· % (if Int.toNat q * inf.size = 0 then #[] else z.cells).size]!), el, Int.toNat q, Kept.refl _ _, ?_, ?_, ?_, fun i x hi => ?_, ?_⟩
     ·rw [← h5] at t5 t4
      simp only [Instr.makeSlice, Sem.run_bind, run_underlying h1, Result.andThen_ok, hl', hc', asInt, asIntOf, Sem.run_pure, run_typeInfo h3, w1, w2]
      simp only [t5, Bool.false_eq_true, if_false, askRoom, if_neg t4, Sem.run_bind, Sem.run_pure, Result.andThen_ok, run_sizeOf h3, Sem.run_ite, run_zeroValue h3 hz]
      split
      ·simp only [Result.andThen_ok, run_newRow]
      ·simp only [Result.andThen_ok, run_newRow]
     ·simpa using g1'
     ·simp [hsz, h4]
     ·have hx : x = e'.zero ∧ i < Int.toNat n := by
       rw [List.getElem?_replicate] at hi
       split at hi
       ·cases hi; exact ⟨rfl, ‹_›⟩
       ·cases hi
      obtain ⟨rfl, hin⟩ := hx
      refine ⟨z.cells.toList, fun j v hj => ?_, hr⟩
      have hjl : j < z.cells.size := by
       rcases Nat.lt_or_ge j z.cells.size with h6 | h6
       ·exact h6
       ·simp [Array.getElem?_eq_none h6] at hj
      have hiq : i < Int.toNat q := by omega
      have hzs : z.cells.size = inf.size := by omega
      have hij : i * inf.size + j < Int.toNat q * inf.size := by
       have : (i + 1) * inf.size ≤ Int.toNat q * inf.size := Nat.mul_le_mul_right _ hiq
       rw [Nat.add_mul] at this; omega
      have hne : ¬ (Int.toNat q * inf.size = 0) := by omega
      have hmod : (i * inf.size + j) % inf.size = j := by
       rw [Nat.mul_comm, Nat.mul_add_mod]; exact Nat.mod_eq_of_lt (by omega)
      simp only [if_neg hne]
      rw [show e'.ty.size = inf.size by omega]
      simp only [Array.getElem?_map, Array.getElem?_range, hij, if_true, Option.map_some, hzs, hmod]
      rw [← hj]
      simp [hjl]
     ·exact RepV.of (t := .ow id) ⟨rfl, _, ext_same, by simp [RI.val, adr]⟩
   ·rename_i hsm
    cases he
    refine done_new h hf (Ty.hold_of_pure _ hp) fun u hu => ?_
    simp only [Cnd.map, Cnd.test] at hu
    cases hk : mkOk e'.bys n q with
    | false => simp [hk] at hu
    | true =>
     simp only [hk, cond_true, Option.map_some, Option.some.injEq] at hu
     subst hu
     obtain ⟨g0, g1, w1, w2, t5, t4⟩ := mkOk_facts hby hk
     have g1' : Int.toNat n ≤ Int.toNat q := Int.toNat_le_toNat g1
     have hr := (hz' F (mem w) ρ).cells
     have hzl := Rep.length _ _ _ hr
     simp only [Array.length_toList] at hzl
     refine ⟨.slice (some (adr (w.heap.size, 0))) (Int.toNat n) (Int.toNat q), w, (Array.range (Int.toNat q * inf.size)).map ((if Int.toNat q * inf.size = 0 then #[] else z.cells)[· % (if Int.toNat q * inf.size = 0 then #[] else z.cells).size]!), el, Int.toNat q, Kept.refl _ _, ?_, ?_, ?_, fun i x hi => ?_, ?_⟩
     ·rw [← h5] at t5 t4
      simp only [Instr.makeSlice, Sem.run_bind, run_underlying h1, Result.andThen_ok, hl', hc', asInt, asIntOf, Sem.run_pure, run_typeInfo h3, w1, w2]
      simp only [t5, Bool.false_eq_true, if_false, askRoom, if_neg t4, Sem.run_bind, Sem.run_pure, Result.andThen_ok, run_sizeOf h3, Sem.run_ite, run_zeroValue h3 hz]
      split
      ·simp only [Result.andThen_ok, run_newRow]
      ·simp only [Result.andThen_ok, run_newRow]
     ·simp
     ·simp [hsz, h4]
     ·have hx : x = e'.zero ∧ i < Int.toNat q := by
       rw [List.getElem?_replicate] at hi
       split at hi
       ·cases hi; exact ⟨rfl, ‹_›⟩
       ·cases hi
      obtain ⟨rfl, hin⟩ := hx
      refine ⟨z.cells.toList, fun j v hj => ?_, hr⟩
      have hjl : j < z.cells.size := by
       rcases Nat.lt_or_ge j z.cells.size with h6 | h6
       ·exact h6
       ·simp [Array.getElem?_eq_none h6] at hj
      have hiq : i < Int.toNat q := hin
      have hzs : z.cells.size = inf.size := by omega
      have hij : i * inf.size + j < Int.toNat q * inf.size := by
       have : (i + 1) * inf.size ≤ Int.toNat q * inf.size := Nat.mul_le_mul_right _ hiq
       rw [Nat.add_mul] at this; omega
      have hne : ¬ (Int.toNat q * inf.size = 0) := by omega
      have hmod : (i * inf.size + j) % inf.size = j := by
       rw [Nat.mul_comm, Nat.mul_add_mod]; exact Nat.mod_eq_of_lt (by omega)
      simp only [if_neg hne]
      rw [show e'.ty.size = inf.size by omega]
      simp only [Array.getElem?_map, Array.getElem?_range, hij, if_true, Option.map_some, hzs, hmod]
      rw [← hj]
      simp [hjl]
     ·exact RepV.of (t := .osl id) ⟨rfl, _, ext_same, some (adr (w.heap.size, 0)), Int.toNat q, rfl, g1', by simp, by simpa using g1', .inr ⟨(w.heap.size, 0), rfl, by simp⟩, by simp⟩
  ·cases he
 ·cases he
theorem chain_law : ∀ (l : List Operand) {s s' : St} {q : TV} {F : Nat → Prop}, chainTV s l = some (q, s') → RelAt F0 M W0 F ρ s a w →
  ∃ F', (∀ b, F b → F' b) ∧ RelAt F0 M W0 F' ρ s' a w ∧ Rep F' (mem w) ρ q.t q.v (l.map a.eval)
 | [], s, s', q, F, he, h => by
  simp only [chainTV] at he
  cases he
  exact ⟨F, fun _ h => h, h, rfl⟩
 | x :: l, s, s', q, F, he, h => by
  simp only [chainTV] at he
  split at he
  ·rename_i y hy
   split at he
   ·rename_i z s1 hz
    split at he
    ·cases he
    ·rename_i hst
     split at he
     ·rename_i q' s2 hq
      cases he
      obtain ⟨F1, hF1, h1, hp, hr⟩ := toPure_law h hz (ev_law h hy).1
      obtain ⟨F2, hF2, h2, hr2⟩ := chain_law l hq h1
      unfold RepV1 at hr
      rw [if_neg hst] at hr
      exact ⟨F2, fun b hb => hF2 b (hF1 b hb), h2, [a.eval x], l.map a.eval, rfl, Rep.mono hF2 (fun _ _ _ _ h => h) (fun _ _ h => h) _ _ _ hr.2, hr2⟩
     ·cases he
   ·split at he
    ·cases he
    ·rename_i hst
     simp only [Bool.or_eq_true, Bool.not_eq_true', not_or, Bool.not_eq_true, Bool.not_eq_false] at hst
     split at he
     ·rename_i q' s2 hq
      cases he
      obtain ⟨F2, hF2, h2, hr2⟩ := chain_law l hq h
      have hr := RepV1.of (ev_law h hy).1 (by cases ht : y.t <;> simp [ht, Ty.cell, isAny] at hst ⊢) (by intro u e; rw [e] at hst; simp [Ty.cell] at hst)
      unfold RepV1 at hr
      rw [if_neg (by simp [hst.1])] at hr
      exact ⟨F2, hF2, h2, [a.eval x], l.map a.eval, rfl, Rep.mono hF2 (fun _ _ _ _ h => h) (fun _ _ h => h) _ _ _ hr.2, hr2⟩
     ·cases he
  ·cases he
theorem makeFunc_law (h : RelAt F0 M W0 F ρ s a w) {fn : Fn} {first captured : Array Operand} {e : Eff R} (he : opMakeFunc fn first captured s = some e) :
  Done P F0 M W0 a w id e (Instr.makeFunc fn (first.map a.eval) (captured.map a.eval)) := by
 unfold opMakeFunc at he
 split at he
 ·rename_i f hfirst
  split at he
  ·rename_i q s' hq
   cases he
   obtain ⟨F', hF, h', hr⟩ := chain_law _ hq h
   refine done_one h' fun u hu => ⟨_, rfl, ?_⟩
   cases hu
   have : first = #[] := by simpa using hfirst
   subst this
   have e1 : captured.map a.eval = (captured.toList.map a.eval).toArray := by apply Array.ext'; simp
   exact ⟨rfl, captured.toList.map a.eval, by rw [e1]; simp, hr⟩
  ·cases he
 ·cases he
theorem un_law (h : RelAt F0 M W0 F ρ s a w) {op : UnOp} {x : Operand} {e : Eff R} (he : opUn op x s = some e) :
  Done P F0 M W0 a w id e (Op.unary op (a.eval x)) := by
 unfold opUn at he
 split at he
 ·rename_i b hx
  cases he
  refine done_one h fun u hu => ⟨.bool (!b), by simp [Op.unary, evBool h hx], ?_⟩
  cases hu; exact ⟨rfl, rfl⟩
 ·rename_i k n hx
  cases he
  refine done_one h fun u hu => ⟨.int k (negI k n), by simp [Op.unary, evInt h hx, Op.intArith, negI], ?_⟩
  cases hu; exact ⟨rfl, rfl⟩
 ·rename_i k n hx
  cases he
  refine done_one h fun u hu => ⟨_, by simp only [Op.unary, evInt h hx, Op.intBits, Sem.run_pure]; rfl, ?_⟩
  cases hu; exact ⟨rfl, rfl⟩
 ·cases he
theorem extract_law (h : RelAt F0 M W0 F ρ s a w) {x : Operand} {i : Nat} {e : Eff R} (he : opExtract x i s = some e) :
  Done P F0 M W0 a w id e (Instr.extract (a.eval x) i) := by
 unfold opExtract at he
 split at he
 ·rename_i t v hx
  obtain ⟨vs, h1, h2⟩ := (ev_law h hx).1
  rw [h1]
  have key : ∀ (t : Ty) (v : t.den) (vs : List Value) (i : Nat) (e : Eff R), RepVs F (mem w) ρ t v vs → opExtract.go s t v i = some e → ∃ T k, e = Eff.one s T k ∧ ∀ u, k.c = some u → ∃ val, vs[i]? = some val ∧ RepV F (mem w) ρ T u val := by
   intro t
   induction t with
   | pair a b iha ihb =>
    intro v vs i e hr he
    obtain ⟨y, r, e1, r1, r2⟩ := hr
    subst e1
    cases i with
    | zero => simp only [opExtract.go] at he; cases he; exact ⟨a, .ret v.1, rfl, fun u hu => by cases hu; exact ⟨y, rfl, RepV.of r1⟩⟩
    | succ i =>
     simp only [opExtract.go] at he
     obtain ⟨T, k, h3, h4⟩ := ihb v.2 r i e r2 he
     exact ⟨T, k, h3, fun u hu => by obtain ⟨val, h5, h6⟩ := h4 u hu; exact ⟨val, by simpa using h5, h6⟩⟩
   | nxt a b _ _ =>
    intro v vs i e hr he
    obtain _ | i := i
    ·simp only [opExtract.go] at he
     cases he
     refine ⟨.bool, .ret v.isSome, rfl, fun u hu => ?_⟩
     cases hu
     cases v with
     | none => have hr : vs = [.bool false] := hr; subst hr; exact ⟨_, rfl, RepV.of (t := .bool) ⟨rfl, rfl⟩⟩
     | some p => obtain ⟨x, y, e, _⟩ := hr; subst e; exact ⟨_, rfl, RepV.of (t := .bool) ⟨rfl, rfl⟩⟩
    obtain _ | i := i
    ·have he : some (Eff.one s a (.look (v.map (·.1)))) = some e := he
     cases he
     refine ⟨a, .look (v.map (·.1)), rfl, fun u hu => ?_⟩
     cases v with
     | none => cases hu
     | some p => cases hu; obtain ⟨x, y, e, h1, h2⟩ := hr; subst e; exact ⟨x, rfl, RepV.of h1⟩
    obtain _ | i := i
    ·have he : some (Eff.one s b (.look (v.map (·.2)))) = some e := he
     cases he
     refine ⟨b, .look (v.map (·.2)), rfl, fun u hu => ?_⟩
     cases v with
     | none => cases hu
     | some p => cases hu; obtain ⟨x, y, e, h1, h2⟩ := hr; subst e; exact ⟨y, rfl, RepV.of h2⟩
    ·simp [opExtract.go] at he
   | _ => intro v vs i e hr he; simp [opExtract.go] at he
  obtain ⟨T, k, rfl, h4⟩ := key t v vs i e h2 he
  refine done_one h fun z hz => ?_
  obtain ⟨val, h5, h6⟩ := h4 z hz
  exact ⟨val, by simp [Instr.extract, h5], h6⟩
 ·cases he
theorem len_law (hT : TabOk P tb) (h : RelAt F0 M W0 F ρ s a w) {t ty : Nat} {x : Operand} {e : Eff R} (he : opLen tb t x s = some e) :
  Done P F0 M W0 a w id e (Builtin.len_ #[t] ty #[a.eval x]) := by
 unfold opLen at he
 split at he
 ·rename_i i y hi hx
  have hu := (hT t i hi).und
  split at he
  ·rename_i hk hs
   rw [hk] at hu
   split at he
   ·rename_i n hn
    cases he
    obtain ⟨yt, yv⟩ := y
    cases yt <;> simp [opLen.isStr] at hs
    simp only [lenTV, Option.some.injEq] at hn
    subst hn
    refine done_one h fun u hu' => ⟨.int .i64 (List.length yv : Int), ?_, ?_⟩
    ·have hsz : (⟨List.toArray yv⟩ : ByteArray).size = List.length yv := by simp [ByteArray.size]
     simp only [Builtin.len_, List.getElem?_toArray, List.getElem?_cons_zero, Sem.run_bind, run_underlying hu, Result.andThen_ok, evStr h hx, goInt, Sem.run_pure, hsz]
    ·cases hu'; exact ⟨rfl, rfl⟩
   ·cases he
  ·rename_i el hk hs
   rw [hk] at hu
   split at he
   ·rename_i n hn
    cases he
    obtain ⟨yt, yv⟩ := y
    have fin : ∀ (A : Option Addr) (q c : Nat), a.eval x = .slice A q c → n = (q : Int) → Done P F0 M W0 a w id (Eff.one (R := R) s (.int .i64) (.ret n)) (Builtin.len_ #[t] ty #[a.eval x]) := by
     intro A q c h1 h2
     subst h2
     refine done_one h fun u hu' => ⟨.int .i64 (q : Int), ?_, ?_⟩
     ·simp [Builtin.len_, run_underlying hu, h1, goInt]
     ·cases hu'; exact ⟨rfl, rfl⟩
    cases yt <;> simp [opLen.isStr] at hs <;> simp only [lenTV, Option.some.injEq, reduceCtorEq] at hn
    ·obtain ⟨A, q, c, h1, h2, _⟩ := evSlice h hx
     exact fin A q c h1 (by rw [h2]; exact hn.symm)
    ·split at hn
     ·rename_i r ob hob
      obtain ⟨ri, h1, h2⟩ := evOw h hx
      obtain ⟨ri', h1', ho⟩ := h.obj _ ob hob
      rw [h1] at h1'; cases h1'
      exact fin _ _ _ h2 (by rw [ho.n]; simpa using hn.symm)
     ·cases hn
    ·obtain ⟨ri, A, c, h1, h2, _⟩ := evOsl h hx
     exact fin _ _ _ h2 hn.symm
    ·exact fin _ _ _ (evNils h hx) hn.symm
    ·rcases evPsl h hx with ⟨rfl, h1⟩ | ⟨i, u, rfl, ri, _, A, c, h2, _⟩
     ·exact fin _ _ _ h1 hn.symm
     ·exact fin _ _ _ h2 hn.symm
   ·cases he
  ·cases he
 ·cases he
theorem cap_law (hT : TabOk P tb) (h : RelAt F0 M W0 F ρ s a w) {t ty : Nat} {x : Operand} {e : Eff R} (he : opCapNil tb t x s = some e) :
  Done P F0 M W0 a w id e (Builtin.cap_ #[t] ty #[a.eval x]) := by
 unfold opCapNil at he
 split at he
 ·rename_i i y hi hx
  have hu := (hT t i hi).und
  split at he
  ·rename_i el hk
   rw [hk] at hu
   cases he
   refine done_one h fun u hu' => ⟨.int .i64 0, ?_, ?_⟩
   ·simp [Builtin.cap_, run_underlying hu, evNils h hx, goInt]
   ·cases hu'; exact ⟨rfl, rfl⟩
  ·cases he
 ·cases he
def RepL (F : Nat → Prop) (m : Nat → Nat → Option Value) (ρ : RK → Option RI) : List TV → List Value → Prop
 | [], vs => vs = []
 | y :: ys, vs => ∃ x xs, vs = x :: xs ∧ RepV F m ρ y.t y.v x ∧ isAny y.t = false ∧ RepL F m ρ ys xs
theorem evs_law (h : RelAt F0 M W0 F ρ s a w) : ∀ {l : List Operand} {ys : List TV}, evs s l = some ys → RepL F (mem w) ρ ys (l.map a.eval)
 | [], ys, he => by cases he; rfl
 | x :: l, ys, he => by
  simp only [evs] at he
  split at he
  ·rename_i y ys' h1 h2
   cases he
   exact ⟨_, _, rfl, (ev_law h h1).1, (ev_law h h1).2, evs_law h h2⟩
  ·cases he
theorem max_law (h : RelAt F0 M W0 F ρ s a w) {ts : Array TypeId} {ty : Nat} {args : Array Operand} {e : Eff R} (he : opMax args s = some e) :
  Done P F0 M W0 a w id e (Builtin.max_ ts ty (args.map a.eval)) := by
 unfold opMax at he
 split at he
 ·rename_i k n r hr
  split at he
  ·rename_i q hq
   cases he
   have hl := evs_law h hr
   simp only [Builtin.max_, Array.toList_map]
   obtain ⟨x, xs, hargs, h1, _, h2⟩ := hl
   rw [hargs]
   obtain rfl : x = .int k n := by obtain ⟨_, h3⟩ := h1; simpa [Rep] using h3
   have key : ∀ (r : List TV) (n q : Int) (xs : List Value), maxAll k n r = some q → RepL F (mem w) ρ r xs → (xs.foldlM Builtin.max2 (.int k n)).run P w = .ok (.int k q) w := by
    intro r
    induction r with
    | nil => intro n q xs h4 h5; cases h5; simp only [maxAll, Option.some.injEq] at h4; subst h4; rfl
    | cons y r ih =>
     intro n q xs h4 h5
     obtain ⟨x', xs', h9, h6, _, h7⟩ := h5
     subst h9
     obtain ⟨yt, yv⟩ := y
     cases yt <;> simp only [maxAll, reduceCtorEq] at h4
     split at h4
     ·rename_i hkk
      subst hkk
      obtain rfl : x' = .int k yv := by obtain ⟨_, h8⟩ := h6; simpa [Rep] using h8
      simp only [List.foldlM_cons, Sem.run_bind, Builtin.max2, Sem.run_pure, Result.andThen_ok]
      exact ih _ _ _ h4 h7
     ·cases h4
   refine done_one h fun u hu => ⟨.int k q, key _ _ _ _ hq h2, ?_⟩
   cases hu; exact ⟨rfl, rfl⟩
  ·cases he
 ·cases he
theorem min_law (h : RelAt F0 M W0 F ρ s a w) {ts : Array TypeId} {ty : Nat} {args : Array Operand} {e : Eff R} (he : opMin args s = some e) :
  Done P F0 M W0 a w id e (Builtin.min_ ts ty (args.map a.eval)) := by
 unfold opMin at he
 split at he
 ·rename_i k n r hr
  split at he
  ·rename_i q hq
   cases he
   have hl := evs_law h hr
   simp only [Builtin.min_, Array.toList_map]
   obtain ⟨x, xs, hargs, h1, _, h2⟩ := hl
   rw [hargs]
   obtain rfl : x = .int k n := by obtain ⟨_, h3⟩ := h1; simpa [Rep] using h3
   have key : ∀ (r : List TV) (n q : Int) (xs : List Value), minAll k n r = some q → RepL F (mem w) ρ r xs → (xs.foldlM Builtin.min2 (.int k n)).run P w = .ok (.int k q) w := by
    intro r
    induction r with
    | nil => intro n q xs h4 h5; cases h5; simp only [minAll, Option.some.injEq] at h4; subst h4; rfl
    | cons y r ih =>
     intro n q xs h4 h5
     obtain ⟨x', xs', h9, h6, _, h7⟩ := h5
     subst h9
     obtain ⟨yt, yv⟩ := y
     cases yt <;> simp only [minAll, reduceCtorEq] at h4
     split at h4
     ·rename_i hkk
      subst hkk
      obtain rfl : x' = .int k yv := by obtain ⟨_, h8⟩ := h6; simpa [Rep] using h8
      simp only [List.foldlM_cons, Sem.run_bind, Builtin.min2, Sem.run_pure, Result.andThen_ok]
      exact ih _ _ _ h4 h7
     ·cases h4
   refine done_one h fun u hu => ⟨.int k q, key _ _ _ _ hq h2, ?_⟩
   cases hu; exact ⟨rfl, rfl⟩
  ·cases he
 ·cases he
end Go.Vu
