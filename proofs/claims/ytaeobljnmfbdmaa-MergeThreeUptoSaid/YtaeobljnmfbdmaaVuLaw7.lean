/- Value semantics, part 12: arithmetic, and values held against each other. -/
import Derived.Test.YtaeobljnmfbdmaaVuLaw6
import Derived.Laws.StructEq
set_option linter.unusedVariables false
namespace Go.Vu
open Go
variable {P : Program} {tb : Tab} {R : Type} {F0 : Bs} {M F : Nat → Prop} {W0 w w' : World} {ρ : RK → Option RI} {s : St} {a : Act} {m : Nat → Nat → Option Value} {id : Nat}
theorem done_ret (h : RelAt F0 M W0 F ρ s a w) {T : Ty} {v : T.den} {val : Value} {sm : Sem Value} (hr : sm.run P w = .ok val w) (hv : RepV F (mem w) ρ T v val) : Done P F0 M W0 a w id (Eff.one (R := R) s T (.ret v)) sm :=
 done_one h fun u hu => ⟨val, hr, by cases hu; exact hv⟩
theorem done_test (h : RelAt F0 M W0 F ρ s a w) {T : Ty} {b : Bool} {v : T.den} {val : Value} {sm : Sem Value} (hr : b = true → sm.run P w = .ok val w) (hv : RepV F (mem w) ρ T v val) :
  Done P F0 M W0 a w id (Eff.one (R := R) s T ((Cnd.test b).map fun _ => v)) sm :=
 done_one h fun u hu => by
  cases hb : b with
  | false => simp [Cnd.map, Cnd.test, hb] at hu
  | true =>
   simp only [Cnd.map, Cnd.test, hb, cond_true, Option.map_some, Option.some.injEq] at hu
   exact ⟨val, hr hb, by subst hu; exact hv⟩
def noGuard : Value → Bool
 | .agg _ | .nilIface => false
 | _ => true
theorem eqGuard_run {op : BinOp} {t : TypeId} {x y : Operand} {u v : Value} (hu : noGuard u = true) : (eqGuard op t x y u v).run P w = .ok () w := by
 cases op <;> cases u <;> simp [noGuard] at hu <;> rfl
theorem toList_mk (l : List UInt8) : (⟨l.toArray⟩ : ByteArray).toList = l := by simp
theorem bytes_beq (x y : List UInt8) : ((⟨x.toArray⟩ : ByteArray) == ⟨y.toArray⟩) = (x == y) := by rw [beq_toListBytes, toList_mk, toList_mk]
theorem run_eq_bool {d t : Nat} (hu : P.underlying t = some .bool) (x y : Bool) : (Op.equalIn (d + 1) t (.bool x) (.bool y)).run P w = .ok (x == y) w := by
 simp only [Op.equalIn, Sem.run_bind, run_underlying hu, Result.andThen_ok, Sem.run_pure]
theorem run_equal {t : Nat} {x y : Value} {b : Bool} (h : (Op.equalIn 10000 t x y).run P w = .ok b w) : (Op.equal t x y).run P w = .ok b w := h
theorem run_bin_eql {t : Nat} {x y : Value} {b : Bool} (hb : binOp .eql t x y = (do pure (.bool (← Op.equal t x y)))) (h : (Op.equal t x y).run P w = .ok b w) : (binOp .eql t x y).run P w = .ok (.bool b) w := by
 rw [hb]; simp only [Sem.run_bind, h, Result.andThen_ok, Sem.run_pure]
theorem run_bin_neq {t : Nat} {x y : Value} {b : Bool} (hb : binOp .neq t x y = (do pure (.bool (!(← Op.equal t x y))))) (h : (Op.equal t x y).run P w = .ok b w) : (binOp .neq t x y).run P w = .ok (.bool (!b)) w := by
 rw [hb]; simp only [Sem.run_bind, h, Result.andThen_ok, Sem.run_pure]
theorem flatV1 {t : Ty} {v : t.den} {cs : List Value} (hp : t.cell = true) (hr : Rep F m ρ t v cs) (hs : isSt t = false) (hl : cs.length = 1) : ∃ x, cs = [x] ∧ RepV1 F m ρ t v x := by
 obtain ⟨x, rfl⟩ := List.length_eq_one_iff.1 hl
 exact ⟨x, rfl, by unfold RepV1; rw [if_neg (by simp [hs])]; exact ⟨Rep.one t v _ hp hr x (by simp), hr⟩⟩
theorem part_run {t : Nat} {i : TI} (ht : TIOk P t i) {l : Ty} (hs : i.agg = isSt l) (hz : i.sz = l.size) (h1 : isSt l = false → l.size = 1) (hp : l.cell = true) {v : l.den} {c1 c2 c3 : List Value}
  (hr : Rep F (mem w) ρ l v c2) : ∃ val, (part t (c1 ++ c2 ++ c3).toArray c1.length).run P w = .ok val w ∧ RepV1 F (mem w) ρ l v val :=
 part_law ht hs.symm hz (fun h => by rw [hz]; exact h1 h) hp hr
theorem eq_law (hT : TabOk P tb) : ∀ (n t : Nat) (T : Ty), eqOk tb n t T = true → T.pure = true → ∀ (d : Nat), n ≤ d → ∀ (x y : T.den) (vx vy : Value), RepV1 F (mem w) ρ T x vx → RepV1 F (mem w) ρ T y vy → (Op.equalIn d t vx vy).run P w = .ok (eqT T x y) w := by
 intro n
 induction n with
 | zero => intro t T he; simp [eqOk] at he
 | succ n ih =>
  intro t T he hp d hd x y vx vy hx hy
  obtain ⟨d, rfl⟩ : ∃ k, d = k + 1 := ⟨d - 1, by omega⟩
  simp only [eqOk] at he
  split at he
  ·cases he
  ·rename_i i hi
   have hti := hT t i hi
   have hu := hti.und
   simp only [Bool.and_eq_true, beq_iff_eq] at he
   obtain ⟨⟨hsz, hag⟩, he⟩ := he
   split at he
   ·rename_i k k' hk
    rw [hk] at hu
    obtain ⟨_, h1⟩ := hx
    obtain ⟨_, h2⟩ := hy
    obtain rfl : vx = .int k' x := by simpa [Rep] using h1
    obtain rfl : vy = .int k' y := by simpa [Rep] using h2
    simp only [Op.equalIn, Sem.run_bind, run_underlying hu, Result.andThen_ok, if_true, Sem.run_pure, eqT]
    congr 1
   ·rename_i hk
    rw [hk] at hu
    obtain ⟨_, h1⟩ := hx
    obtain ⟨_, h2⟩ := hy
    obtain rfl : vx = .bool x := by simpa [Rep] using h1
    obtain rfl : vy = .bool y := by simpa [Rep] using h2
    simp only [Op.equalIn, Sem.run_bind, run_underlying hu, Result.andThen_ok, Sem.run_pure, eqT]
   ·rename_i hk
    rw [hk] at hu
    obtain ⟨_, h1⟩ := hx
    obtain ⟨_, h2⟩ := hy
    obtain rfl : vx = .string ⟨List.toArray x⟩ := by simpa [Rep] using h1
    obtain rfl : vy = .string ⟨List.toArray y⟩ := by simpa [Rep] using h2
    simp only [Op.equalIn, Sem.run_bind, run_underlying hu, Result.andThen_ok, Sem.run_pure, eqT, bytes_beq]
   ·rename_i fs T hk
    rw [hk] at hu
    obtain ⟨fields, hf, hmap, hnames⟩ := hu
    simp only [Bool.and_eq_true] at he
    obtain ⟨hheld, _⟩ := hti.eqs he.1
    obtain ⟨cx, rfl, h1⟩ := hx
    obtain ⟨cy, rfl, h2⟩ := hy
    have key : ∀ (fl : List Field) (T : Ty) (at' : Nat) (x y : T.den) (px py c1 c2 : List Value), eqFs (eqOk tb n) (fl.map fun f => (f.offset, f.type)) T at' = true → T.pure = true → (∀ f ∈ fl, f.name ≠ "_") →
      Rep F (mem w) ρ T x c1 → Rep F (mem w) ρ T y c2 → px.length = at' → py.length = at' → (Op.eqFields d (px ++ c1).toArray (py ++ c2).toArray fl).run P w = .ok (eqT T x y) w := by
     intro fl
     induction fl with
     | nil => intro T at' x y px py c1 c2 h; simp [eqFs] at h
     | cons f fl ihf =>
      intro T at' x y px py c1 c2 h hp hn r1 r2 l1 l2
      have hfn := hn f (by simp)
      have one : ∀ (T : Ty) (x y : T.den) (c1 c2 e1 e2 : List Value), f.offset = at' → eqOk tb n f.type T = true → T.pure = true → Rep F (mem w) ρ T x c1 → Rep F (mem w) ρ T y c2 →
        ∃ v1 v2, (part f.type (px ++ (c1 ++ e1)).toArray f.offset).run P w = .ok v1 w ∧ (part f.type (py ++ (c2 ++ e2)).toArray f.offset).run P w = .ok v2 w ∧ (Op.equalIn d f.type v1 v2).run P w = .ok (eqT T x y) w := by
       intro T x y c1 c2 e1 e2 ho he hp r1 r2
       have hinfo : ∃ j, tb.get f.type = some j ∧ j.sz = T.size ∧ j.agg = isSt T ∧ (isSt T = false → T.size = 1) := by
        cases n with
        | zero => simp [eqOk] at he
        | succ n =>
         simp only [eqOk] at he
         split at he
         ·cases he
         ·rename_i j hj
          simp only [Bool.and_eq_true, beq_iff_eq] at he
          refine ⟨j, hj, he.1.1, he.1.2, fun hs => ?_⟩
          have := he.2
          split at this <;> first | rfl | (simp [isSt] at hs; done) | (cases this; done)
       obtain ⟨j, hj, j1, j2, j3⟩ := hinfo
       obtain ⟨v1, q1, q2⟩ := part_run (hT _ j hj) j2 j1 j3 (pure_cell hp) (c1 := px) (c3 := e1) r1
       obtain ⟨v2, q3, q4⟩ := part_run (hT _ j hj) j2 j1 j3 (pure_cell hp) (c1 := py) (c3 := e2) r2
       refine ⟨v1, v2, ?_, ?_, ih _ _ he hp d (by omega) x y v1 v2 q2 q4⟩
       ·rw [ho, ← l1, ← List.append_assoc]; exact q1
       ·rw [ho, ← l2, ← List.append_assoc]; exact q3
      cases fl with
      | nil =>
       simp only [List.map_cons, List.map_nil, eqFs, Bool.and_eq_true, beq_iff_eq] at h
       obtain ⟨v1, v2, q1, q2, q3⟩ := one T x y c1 c2 [] [] h.1 h.2 hp r1 r2
       simp only [List.append_nil] at q1 q2
       simp only [Op.eqFields, if_pos hfn, Sem.run_bind, q1, q2, q3, Result.andThen_ok]
       cases eqT T x y <;> simp
      | cons g fl =>
       cases T <;> simp only [List.map_cons, eqFs, Bool.false_eq_true] at h
       rename_i a b
       simp only [Bool.and_eq_true, beq_iff_eq] at h
       simp only [Ty.pure, Bool.and_eq_true] at hp
       obtain ⟨d1, d2, rfl, r3, r4⟩ := r1
       obtain ⟨d3, d4, rfl, r5, r6⟩ := r2
       obtain ⟨v1, v2, q1, q2, q3⟩ := one a x.1 y.1 d1 d3 d2 d4 h.1.1 h.1.2 hp.1 r3 r5
       have q4 := ihf b (at' + a.size) x.2 y.2 (px ++ d1) (py ++ d3) d2 d4 (by simpa using h.2) hp.2 (fun f hf => hn f (by simp at hf ⊢; right; exact hf)) r4 r6 (by simp [l1, Rep.length _ _ _ r3]) (by simp [l2, Rep.length _ _ _ r5])
       simp only [List.append_assoc] at q4
       rw [Op.eqFields]
       simp only [if_pos hfn, Sem.run_bind, q1, q2, q3, Result.andThen_ok, eqT]
       cases eqT a x.1 y.1
       ·simp
       ·simpa using q4
    have hff : P.fieldsOf t = fields := by simp [Program.fieldsOf, hf]
    rw [run_equalIn_struct (P := P) w d t cx.toArray cy.toArray (by rw [hff]; exact hf) hheld, hff]
    have := key fields.toList T 0 x y [] [] cx cy (by rw [hmap]; exact he.2) hp (fun f hf => (hnames f hf).1) h1 h2 rfl rfl
    simpa [eqT] using this
   ·cases he
theorem eqGuard_seq {op : BinOp} {t : TypeId} {x y : Operand} {u v : Value} (hu : noGuard u = true) {sm : Sem Value} : (do eqGuard op t x y u v; sm).run P w = sm.run P w := by
 simp only [Sem.run_bind, eqGuard_run hu, Result.andThen_ok]
theorem run_eq_ptr_nil {d t el : Nat} (hu : P.underlying t = some (.pointer el)) (q : Option Addr) : (Op.equalIn (d + 1) t (.pointer q) (.pointer none)).run P w = .ok q.isNone w := by
 cases q <;> simp only [Op.equalIn, Sem.run_bind, run_underlying hu, Result.andThen_ok, Sem.run_pure] <;> rfl
theorem run_eq_slice_nil {d t el : Nat} (hu : P.underlying t = some (.slice el)) (A : Option Addr) (n c : Nat) : (Op.equalIn (d + 1) t (.slice A n c) (.slice none 0 0)).run P w = .ok A.isNone w := by
 cases A <;> simp only [Op.equalIn, Sem.run_bind, run_underlying hu, Result.andThen_ok, Sem.run_pure] <;> rfl
theorem ptrNil_law {T : Ty} {v : T.den} {x : Value} {b : Bool} (hr : RepV F m ρ T v x) (hb : ptrNil T v = some b) : ∃ q, x = .pointer q ∧ q.isNone = b := by
 cases T <;> simp only [ptrNil, reduceCtorEq, Option.some.injEq] at hb
 case ptr t =>
  obtain ⟨_, hr⟩ := hr
  rcases hr with ⟨rfl, e⟩ | ⟨y, p, ds, rfl, e, _⟩
  ·subst hb; exact ⟨none, by simpa using e, rfl⟩
  ·subst hb; exact ⟨some (adr p), by simpa using e, rfl⟩
 case rad t o =>
  obtain ⟨_, p, ds, e, _⟩ := hr
  subst hb; exact ⟨_, by simpa using e, rfl⟩
 case nilp =>
  obtain ⟨_, e⟩ := hr
  subst hb; exact ⟨none, by simpa [Rep] using e, rfl⟩
 case pad r o =>
  obtain ⟨_, ri, p, _, _, e⟩ := hr
  subst hb; exact ⟨_, by simpa using e, rfl⟩
theorem bin_law (hT : TabOk P tb) (h : RelAt F0 M W0 F ρ s a w) {op : BinOp} {t : Nat} {x y : Operand} {e : Eff R} (he : opBin tb op t x y s = some e) :
  Done P F0 M W0 a w id e (do eqGuard op t x y (a.eval x) (a.eval y); binOp op t (a.eval x) (a.eval y)) := by
 unfold opBin at he
 split at he
 ·rename_i k n k' q hx hy
  have hx' := evInt h hx
  have hy' := evInt h hy
  rw [hx', hy']
  have hg : (eqGuard op t x y (.int k n) (.int k' q)).run P w = .ok () w := eqGuard_run rfl
  split at he
  ·unfold shI at he
   split at he <;> cases he
   ·refine done_test h (fun hb => ?_) (RepV.of (t := .int k) ⟨rfl, rfl⟩)
    have hb' : ¬ ((q : Int) < 0) := by simpa using hb
    simp only [Sem.run_bind, hg, Result.andThen_ok, binOp, Op.shift, if_neg hb', Sem.run_pure]
   ·refine done_test h (fun hb => ?_) (RepV.of (t := .int k) ⟨rfl, rfl⟩)
    have hb' : ¬ ((q : Int) < 0) := by simpa using hb
    simp only [Sem.run_bind, hg, Result.andThen_ok, binOp, Op.shift, if_neg hb', Sem.run_pure]
  ·split at he
   ·rename_i hsh hk
    subst hk
    unfold binI at he
    split at he <;> cases he
    all_goals first
     | (refine done_ret h ?_ (RepV.of (t := .int k) ⟨rfl, rfl⟩); simp only [Sem.run_bind, hg, Result.andThen_ok, binOp]; simp [Op.intArith, Op.intBits]; done)
     | (refine done_ret h ?_ (RepV.of (t := .bool) ⟨rfl, rfl⟩); simp only [Sem.run_bind, hg, Result.andThen_ok, binOp]; simp [Op.intCmp]; done)
     | (
       refine done_test h (fun hb => ?_) (RepV.of (t := .int k) ⟨rfl, rfl⟩)
       have hb' : ¬ ((q : Int) = 0) := by simpa using hb
       simp only [Sem.run_bind, hg, Result.andThen_ok, binOp]; simp [Op.intDiv, hb']; done)
   ·cases he
 ·rename_i n q hx hy
  have hx' := evStr h hx
  have hy' := evStr h hy
  rw [hx', hy']
  have hg : (eqGuard op t x y (.string ⟨List.toArray n⟩) (.string ⟨List.toArray q⟩)).run P w = .ok () w := eqGuard_run rfl
  unfold binS at he
  split at he <;> cases he
  ·refine done_test h (fun hb => ?_) (val := .string ⟨(n ++ q).toArray⟩) (RepV.of (t := .str) ⟨rfl, rfl⟩)
   have hb' : ¬ (((List.length n + List.length q : Nat) : Int) > IntKind.i64.max) := by
    have : IntKind.i64.max = 9223372036854775807 := by decide
    rw [this]; have := of_decide_eq_true hb; omega
   have s1 : ∀ l : List UInt8, (⟨l.toArray⟩ : ByteArray).size = l.length := fun l => by simp [ByteArray.size]
   simp only [Sem.run_bind, hg, Result.andThen_ok, binOp, Op.stringOp, s1, if_neg hb', Sem.run_pure]
   exact congrArg (fun x => Result.ok (Value.string x) w) (ByteArray.ext (by simp))
  all_goals
   refine done_ret h ?_ (RepV.of (t := .bool) ⟨rfl, rfl⟩)
   simp only [Sem.run_bind, hg, Result.andThen_ok, binOp, Op.stringOp, toList_mk, Sem.run_pure]
 ·rename_i n q hx hy
  have hx' := evBool h hx
  have hy' := evBool h hy
  rw [hx', hy']
  have hg : (eqGuard op t x y (.bool n) (.bool q)).run P w = .ok () w := eqGuard_run rfl
  split at he
  ·rename_i ti hti
   have hu := (hT t ti hti).und
   split at he
   ·rename_i hk
    rw [hk] at hu
    cases he
    refine done_ret h ?_ (RepV.of (t := .bool) ⟨rfl, rfl⟩)
    simp only [Sem.run_bind, hg, Result.andThen_ok]
    exact run_bin_eql rfl (run_equal (run_eq_bool hu n q))
   ·rename_i hk
    rw [hk] at hu
    cases he
    refine done_ret h ?_ (RepV.of (t := .bool) ⟨rfl, rfl⟩)
    simp only [Sem.run_bind, hg, Result.andThen_ok]
    exact run_bin_neq rfl (run_equal (run_eq_bool hu n q))
   ·cases he
  ·cases he
 ·rename_i T u T' v hx hy
  split at he
  ·rename_i hTT
   subst hTT
   split at he
   ·rename_i hok
    simp only [Bool.and_eq_true] at hok
    obtain ⟨cx, h1, h2⟩ := (ev_law h hx).1
    obtain ⟨cy, h3, h4⟩ := (ev_law h hy).1
    have hq := eq_law (w := w) hT 8 t (.st T') hok.2 hok.1 10000 (by omega) u v (a.eval x) (a.eval y) ⟨cx, h1, h2⟩ ⟨cy, h3, h4⟩
    have hg : (eqGuard op t x y (a.eval x) (a.eval y)).run P w = .ok () w := by
     have heq : P.eqGuardType P.depth t = false := by
      have h5 := hok.2
      simp only [eqOk] at h5
      split at h5
      ·cases h5
      ·rename_i i hi
       simp only [Bool.and_eq_true] at h5
       have h6 := h5.2
       cases hk : i.kd <;> rw [hk] at h6 <;> simp only [Bool.false_eq_true, Bool.and_eq_true] at h6
       exact ((hT t i hi).eqs h6.1).2
     rw [h1, h3]
     have hag : ∀ op : BinOp, (eqGuard op t x y (.agg cx.toArray) (.agg cy.toArray)).run P w = .ok () w := fun op => by
      cases op
      case eql =>
       simp only [eqGuard, program, Bool.not_true, Bool.false_eq_true, if_false, Sem.run_bind, Sem.run, Result.andThen_ok, heq]
       simp
      case neq =>
       simp only [eqGuard, program, Bool.not_true, Bool.false_eq_true, if_false, Sem.run_bind, Sem.run, Result.andThen_ok, heq]
       simp
      all_goals rfl
     exact hag op
    split at he <;> cases he
    ·refine done_ret h ?_ (RepV.of (t := .bool) ⟨rfl, rfl⟩)
     simp only [Sem.run_bind, hg, Result.andThen_ok]
     rw [h1, h3] at hq ⊢
     exact run_bin_eql rfl (run_equal hq)
    ·refine done_ret h ?_ (RepV.of (t := .bool) ⟨rfl, rfl⟩)
     simp only [Sem.run_bind, hg, Result.andThen_ok]
     rw [h1, h3] at hq ⊢
     exact run_bin_neq rfl (run_equal hq)
   ·cases he
  ·cases he
 ·rename_i T u v hx hy
  have hy' : a.eval y = .slice none 0 0 := by
   obtain ⟨_, e⟩ := (ev_law h hy).1
   simpa [Rep] using e
  obtain ⟨_, A, n, c, hx', _, _, hn, _⟩ := (ev_law h hx).1
  have hx' : a.eval x = .slice A n c := by simpa using hx'
  split at he
  ·rename_i ti hti
   have hu := (hT t ti hti).und
   split at he
   ·rename_i el hk
    rw [hk] at hu
    cases he
    refine done_ret h ?_ (RepV.of (t := .bool) ⟨rfl, rfl⟩)
    rw [hx', hy', eqGuard_seq rfl]
    exact run_bin_eql rfl (run_equal (by rw [← hn]; exact run_eq_slice_nil hu A n c))
   ·rename_i el hk
    rw [hk] at hu
    cases he
    refine done_ret h ?_ (RepV.of (t := .bool) ⟨rfl, rfl⟩)
    rw [hx', hy', eqGuard_seq rfl]
    exact run_bin_neq rfl (run_equal (by rw [← hn]; exact run_eq_slice_nil hu A n c))
   ·cases he
  ·cases he
 ·rename_i T u v hx hy
  have hy' : a.eval y = .pointer none := by
   obtain ⟨_, e⟩ := (ev_law h hy).1
   simpa [Rep] using e
  split at he
  ·rename_i ti hti
   have hu := (hT t ti hti).und
   split at he
   ·rename_i el b hk hb
    rw [hk] at hu
    cases he
    obtain ⟨q, hq, hq2⟩ := ptrNil_law (ev_law h hx).1 hb
    refine done_ret h ?_ (RepV.of (t := .bool) ⟨rfl, rfl⟩)
    rw [hq, hy', eqGuard_seq rfl]
    exact run_bin_eql rfl (run_equal (by rw [← hq2]; exact run_eq_ptr_nil hu q))
   ·rename_i el b hk hb
    rw [hk] at hu
    cases he
    obtain ⟨q, hq, hq2⟩ := ptrNil_law (ev_law h hx).1 hb
    refine done_ret h ?_ (RepV.of (t := .bool) ⟨rfl, rfl⟩)
    rw [hq, hy', eqGuard_seq rfl]
    exact run_bin_neq rfl (run_equal (by rw [← hq2]; exact run_eq_ptr_nil hu q))
   ·cases he
  ·cases he
 ·cases he
end Go.Vu
