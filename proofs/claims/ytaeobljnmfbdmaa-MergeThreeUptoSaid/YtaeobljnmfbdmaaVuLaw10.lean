/- Value semantics, part 15: append. -/
import Derived.Test.YtaeobljnmfbdmaaVuLaw9
import Derived.Laws.IdiomStrings
import Derived.Laws.BytesArg
set_option linter.unusedVariables false
namespace Go.Vu
open Go
variable {P : Program} {tb : Tab} {R : Type} {F0 : Bs} {M F : Nat → Prop} {W0 w w' : World} {ρ : RK → Option RI} {s : St} {a : Act} {m : Nat → Nat → Option Value} {id : Nat}
def Row (F : Nat → Prop) (m : Nat → Nat → Option Value) (ρ : RK → Option RI) (t : Ty) (xs : List t.den) (cs : List Value) : Prop :=
 cs.length = xs.length * t.size ∧ ∀ (i : Nat) x, xs[i]? = some x → Rep F m ρ t x ((cs.drop (i * t.size)).take t.size)
theorem getD_some {α : Type} {l : List α} {i : Nat} {x d : α} (h : l[i]? = some x) : l.getD i d = x := by simp [List.getD, h]
theorem row_of {t : Ty} {xs : List t.den} {p : Nat × Nat} (h : ∀ (i : Nat) x, xs[i]? = some x → ∃ ds, CellsAt m p.1 (p.2 + i * t.size) ds ∧ Rep F m ρ t x ds) :
  ∃ cs, Row F m ρ t xs cs ∧ CellsAt m p.1 p.2 cs := by
 induction xs generalizing p with
 | nil => exact ⟨[], ⟨by simp, fun i x hi => by simp at hi⟩, fun j v hj => by simp at hj⟩
 | cons x xs ih =>
  obtain ⟨ds, h1, h2⟩ := h 0 x rfl
  have hl := Rep.length _ _ _ h2
  obtain ⟨cs, h3, h4⟩ := ih (p := (p.1, p.2 + t.size)) (fun i y hi => by
   obtain ⟨ds, h5, h6⟩ := h (i + 1) y (by simpa using hi)
   refine ⟨ds, ?_, h6⟩
   rwa [Nat.add_mul, Nat.one_mul, Nat.add_comm (i * t.size), ← Nat.add_assoc] at h5)
  refine ⟨ds ++ cs, ⟨by simp [hl, h3.1, Nat.add_mul]; omega, fun i y hi => ?_⟩, fun j v hj => ?_⟩
  ·cases i with
   | zero =>
    simp only [List.getElem?_cons_zero, Option.some.injEq] at hi
    subst hi
    simp only [Nat.zero_mul, List.drop_zero, ← hl, List.take_left']
    simpa [List.take_left'] using h2
   | succ i =>
    have := h3.2 i y (by simpa using hi)
    rw [List.drop_append, List.drop_of_length_le (by rw [Nat.add_mul]; omega)]
    rw [show (i + 1) * t.size - ds.length = i * t.size by rw [Nat.add_mul, hl]; omega]
    simpa using this
  ·by_cases hj2 : j < ds.length
   ·rw [List.getElem?_append_left hj2] at hj
    have := h1 j v hj
    simpa using this
   ·rw [List.getElem?_append_right (by omega)] at hj
    have := h4 (j - ds.length) v hj
    simp only at this
    rwa [show p.2 + t.size + (j - ds.length) = p.2 + j by omega] at this
theorem Row.append {t : Ty} {xs ys : List t.den} {cs ds : List Value} (h1 : Row F m ρ t xs cs) (h2 : Row F m ρ t ys ds) : Row F m ρ t (xs ++ ys) (cs ++ ds) := by
 refine ⟨by simp [h1.1, h2.1, Nat.add_mul], fun i x hi => ?_⟩
 by_cases hl : i < xs.length
 ·rw [List.getElem?_append_left hl] at hi
  have h3 := h1.2 i x hi
  have h4 : (i + 1) * t.size ≤ xs.length * t.size := Nat.mul_le_mul_right _ hl
  rw [Nat.add_mul, Nat.one_mul] at h4
  rw [List.drop_append_of_le_length (by rw [h1.1]; omega), List.take_append_of_le_length (by rw [List.length_drop, h1.1]; omega)]
  exact h3
 ·rw [List.getElem?_append_right (by omega)] at hi
  have h3 := h2.2 _ x hi
  have h4 : xs.length * t.size ≤ i * t.size := Nat.mul_le_mul_right _ (by omega)
  rw [List.drop_append, List.drop_of_length_le (by rw [h1.1]; omega), h1.1, ← Nat.mul_sub_right_distrib]
  simpa using h3
theorem Row.mono {F' : Nat → Prop} {m' : Nat → Nat → Option Value} {ρ' : RK → Option RI} (hF : ∀ b, F b → F' b) (hm : ∀ b, F b → ∀ j v, m b j = some v → m' b j = some v) (hρ : ∀ r x, ρ r = some x → ρ' r = some x)
  {t : Ty} {xs : List t.den} {cs : List Value} (h : Row F m ρ t xs cs) : Row F' m' ρ' t xs cs := ⟨h.1, fun i x hi => Rep.mono hF hm hρ _ _ _ (h.2 i x hi)⟩
theorem Row.cells {t : Ty} {xs : List t.den} {cs rest : List Value} (h : Row F m ρ t xs cs) (pre : List Value) (i : Nat) (x : t.den) (hi : xs[i]? = some x) :
  ∃ ds, (∀ (j : Nat) v, ds[j]? = some v → (pre ++ cs ++ rest)[pre.length + i * t.size + j]? = some v) ∧ Rep F m ρ t x ds := by
 refine ⟨_, fun j v hj => ?_, h.2 i x hi⟩
 rw [List.getElem?_take] at hj
 split at hj
 ·rw [List.getElem?_drop] at hj
  have hlt : i * t.size + j < cs.length := by
   rcases Nat.lt_or_ge (i * t.size + j) cs.length with h1 | h1
   ·exact h1
   ·simp [List.getElem?_eq_none h1] at hj
  rw [List.append_assoc, Nat.add_assoc, List.getElem?_append_right (by omega), Nat.add_sub_cancel_left, List.getElem?_append_left hlt]
  exact hj
 ·cases hj
theorem Row.one {t : Ty} (ht : t.hold = true) {xs : List t.den} {cs : List Value} (h : Row F m ρ t xs cs) : ∀ c ∈ cs, c.oneCell' = true := by
 intro c hc
 obtain ⟨k, hk⟩ := List.getElem?_of_mem hc
 have hlt : k < cs.length := by
  rcases Nat.lt_or_ge k cs.length with h1 | h1
  ·exact h1
  ·simp [List.getElem?_eq_none h1] at hk
 rw [h.1] at hlt
 have hpos : 0 < t.size := by
  rcases Nat.eq_zero_or_pos t.size with h1 | h1
  ·rw [h1] at hlt; omega
  ·exact h1
 have hq : k / t.size < xs.length := (Nat.div_lt_iff_lt_mul hpos).2 hlt
 have hr := h.2 _ _ (List.getElem?_eq_getElem hq)
 refine Rep.one _ _ _ (hold_cell ht) hr c (List.mem_of_getElem? (i := k % t.size) ?_)
 rw [List.getElem?_take, if_pos (Nat.mod_lt _ hpos), List.getElem?_drop, Nat.mul_comm, Nat.div_add_mod]
 exact hk
structure Src (F : Nat → Prop) (w : World) (ρ : RK → Option RI) (x : Value) (t : Ty) (xs : List t.den) (cs : List Value) : Prop where
 row : Row F (mem w) ρ t xs cs
 val : ∃ A c, x = .slice A xs.length c ∧ (xs.length = 0 ∨ ∃ p, A = some (adr p) ∧ CellsAt (mem w) p.1 p.2 cs)
theorem firstCells_run {x : Value} {t : Ty} (ht : t.hold = true) {xs : List t.den} {cs : List Value} (h : Src F w ρ x t xs cs) : (Builtin.firstCells t.size xs.length x).run P w = .ok cs.toArray w := by
 obtain ⟨A, c, rfl, h1⟩ := h.val
 have hl := h.row.1
 rcases h1 with h1 | ⟨p, rfl, h1⟩
 ·have : cs = [] := List.eq_nil_of_length_eq_zero (by rw [hl, h1]; simp)
  subst this
  cases A with
  | none => simp [Builtin.firstCells]
  | some q => simp only [Builtin.firstCells, h1, Nat.zero_mul]; rfl
 ·simp only [Builtin.firstCells]
  rw [← hl]
  exact run_loadCells_list w (adr p) cs (fun j v hj => by rw [adr_add]; exact mem_cell (h1 j v hj) (h.row.one ht v (List.mem_of_getElem? hj)))
theorem lenOf_run {x : Value} {t : Ty} {xs : List t.den} {cs : List Value} (h : Src F w ρ x t xs cs) : (Builtin.lenOf x).run P w = .ok xs.length w := by
 obtain ⟨A, c, rfl, h1⟩ := h.val
 rfl
theorem list_src (h : RelAt F0 M W0 F ρ s a w) {y : TV} {oy : OB} {x : Value} (hy : listTV s y = some oy) (hx : RepV F (mem w) ρ y.t y.v x) (hp : oy.t.hold = true) : ∃ cs, Src F w ρ x oy.t oy.xs cs := by
 obtain ⟨yt, yv⟩ := y
 cases yt <;> simp only [listTV, reduceCtorEq] at hy
 ·cases hy
  obtain ⟨_, A, n, c, e, h1, h2, h3⟩ := hx
  obtain rfl : x = _ := by simpa using e
  by_cases h0 : n = 0
  ·have : yv = ([] : List _) := List.eq_nil_of_length_eq_zero (h1.symm.trans h0)
   subst this
   exact ⟨[], ⟨by simp, fun i x hi => by simp at hi⟩, A, c, by simp [h1], .inl rfl⟩
  ·obtain ⟨p, rfl, _, h4⟩ := h3 h0
   obtain ⟨cs, h5, h6⟩ := row_of h4
   exact ⟨cs, h5, _, c, by rw [← h1], .inr ⟨p, rfl, h6⟩⟩
 ·obtain ⟨ri, h1, ho⟩ := h.obj _ oy hy
  obtain ⟨_, ri', h1', e⟩ := hx
  rw [h1] at h1'; cases h1'
  obtain rfl : x = _ := by simpa using e
  by_cases h0 : oy.xs.length = 0
  ·have : oy.xs = [] := List.eq_nil_of_length_eq_zero h0
   refine ⟨[], ⟨by simp [this], fun i x hi => by simp [this] at hi⟩, ri.raw, ri.c, by rw [RI.val, ho.n], .inl h0⟩
  ·cases hA : ri.A with
   | none => have := ho.none hA; have := ho.le; have := ho.n; omega
   | some p =>
    have h4 := ho.cells p hA
    rw [ho.sz] at h4
    obtain ⟨cs, h5, h6⟩ := row_of h4
    exact ⟨cs, h5, ri.raw, ri.c, by rw [RI.val, ho.n], .inr ⟨p, by rw [ho.raw.resolve_left (by have := ho.le; have := ho.n; omega), hA]; rfl, h6⟩⟩
 ·rename_i r
  cases hob : s.obj r with
  | none => simp [hob] at hy
  | some ob =>
   simp only [hob, Option.some.injEq] at hy
   subst hy
   obtain ⟨ri, h1, ho⟩ := h.obj r ob hob
   have hsl := ho.part (F' := fun b => F b ∨ ∃ p, ri.A = some p ∧ p.1 = b) h1 (fun _ h => .inl h) (fun p hp => .inr ⟨p, hp, rfl⟩) hx
   obtain ⟨_, A, n, c, e, h2, h3, h4⟩ := hsl
   obtain rfl : x = _ := by simpa using e
   obtain ⟨_, ri', h1', A2, c2, e2, q1, q2, q3, q4⟩ := hx
   rw [h1] at h1'; cases h1'
   obtain ⟨v1, v2⟩ : Nat × Nat := yv
   simp only [List.cons.injEq, Value.slice.injEq, and_true] at e2
   obtain ⟨rfl, hn, rfl⟩ := e2
   simp only at q1 q2 q3 q4 hn h2
   by_cases h0 : n = 0
   ·have : List.length ((ob.xs.drop v1).take v2) = 0 := by rw [← h2, h0]
    have h5 := List.eq_nil_of_length_eq_zero this
    refine ⟨[], ⟨by simp [h5], fun i x hi => by simp only [h5] at hi; simp at hi⟩, A, c, by rw [← h2], .inl this⟩
   ·rcases q4 with q4 | ⟨p, hA, q4⟩
    ·omega
    ·have h5 := ho.cells p hA
     rw [ho.sz] at h5
     have h6 : ∀ (i : Nat) x, ((ob.xs.drop v1).take v2)[i]? = some x → ∃ ds, CellsAt (mem w) p.1 (p.2 + v1 * ob.t.size + i * ob.t.size) ds ∧ Rep F (mem w) ρ ob.t x ds := fun i x hi => by
      have hi' : ob.xs[v1 + i]? = some x := by
       rw [List.getElem?_take] at hi
       split at hi
       ·simpa [List.getElem?_drop] using hi
       ·cases hi
      obtain ⟨ds, h7, h8⟩ := h5 (v1 + i) x hi'
      refine ⟨ds, ?_, h8⟩
      rwa [Nat.add_mul, ← Nat.add_assoc] at h7
     obtain ⟨cs, h7, h8⟩ := row_of (p := (p.1, p.2 + v1 * ob.t.size)) h6
     exact ⟨cs, h7, A, c, by rw [← h2], .inr ⟨_, by rw [q4, ho.sz], h8⟩⟩
 ·cases hy
  obtain ⟨_, A, n, c, e, h1, h2, _, h3⟩ := hx
  obtain rfl : x = _ := by simpa using e
  by_cases h0 : n = 0
  ·have : yv.1 = ([] : List _) := List.eq_nil_of_length_eq_zero (h1.symm.trans h0)
   exact ⟨[], ⟨by simp [this], fun i x hi => by simp [this] at hi⟩, A, c, by simp [h1], .inl (by simp [this])⟩
  ·obtain ⟨p, rfl, _, h4⟩ := h3 h0
   obtain ⟨cs, h5, h6⟩ := row_of h4
   exact ⟨cs, h5, _, c, by rw [← h1], .inr ⟨p, rfl, h6⟩⟩
theorem append_fits {t t' el : TypeId} {ty : TypeId} {inf : TypeInfo} (hu : P.underlying t = some (.slice el)) (hu' : ∃ el', P.underlying t' = some (.slice el')) (hi : P.info? el = some inf)
  {T : Ty} (hT : T.hold = true) (hs : T.size = inf.size) {y : Value} {ys : List T.den} {cs : List Value} (hy : Src F w ρ y T ys cs) {A : Option Addr} {n c : Nat} (hfit : n + ys.length ≤ c)
  (hst : ∀ q, A = some q → ∃ w', (storeCells (q.add (n * inf.size)) cs).run P w = .ok () w') :
  ∃ w', (Builtin.append_ #[t, t'] ty #[.slice A n c, y]).run P w = .ok (.slice A (n + ys.length) c) w' ∧ (A = none → w' = w) ∧ ∀ q, A = some q → (storeCells (q.add (n * inf.size)) cs).run P w = .ok () w' := by
 obtain ⟨el', hu'⟩ := hu'
 have hfc := firstCells_run (P := P) hT hy
 rw [hs] at hfc
 cases A with
 | none =>
  refine ⟨w, ?_, fun _ => rfl, fun q hq => by cases hq⟩
  simp [Builtin.append_, run_underlying hu, run_underlying hu', run_sizeOf hi, lenOf_run hy, hfit, hfc]
 | some q =>
  obtain ⟨w', h1⟩ := hst q rfl
  refine ⟨w', ?_, (fun h => by cases h), fun q' hq => by cases hq; exact h1⟩
  simp [Builtin.append_, run_underlying hu, run_underlying hu', run_sizeOf hi, lenOf_run hy, hfit, hfc, h1]
theorem append_grows {t t' el : TypeId} {ty : TypeId} {inf : TypeInfo} {z : Value} (hu : P.underlying t = some (.slice el)) (hu' : ∃ el', P.underlying t' = some (.slice el')) (hi : P.info? el = some inf) (hz : inf.zero = some z)
  {T : Ty} (hT : T.hold = true) (hs : T.size = inf.size) (hby : 0 < inf.bytes) {x y : Value} {xs ys : List T.den} {cx cs : List Value} (hx : Src F w ρ x T xs cx) (hy : Src F w ρ y T ys cs) {A : Option Addr} {c : Nat} (hxv : x = .slice A xs.length c)
  (hfit : ¬ (xs.length + ys.length ≤ c)) (hroom : (xs.length + ys.length) * inf.bytes ≤ 140737488355328) :
  ∃ cap rest, xs.length + ys.length ≤ cap ∧ (Builtin.append_ #[t, t'] ty #[x, y]).run P w =
   .ok (.slice (some (adr (w.heap.size, 0))) (xs.length + ys.length) cap) (w.drew.alloc (.cells (cx.toArray ++ cs.toArray ++ Builtin.zeroCells z.cells rest) el)) ∧ rest = cap - (xs.length + ys.length) := by
 obtain ⟨el', hu'⟩ := hu'
 have w1 : Src F w.drew ρ x T xs cx := ⟨hx.row, hx.val⟩
 have w2 : Src F w.drew ρ y T ys cs := ⟨hy.row, hy.val⟩
 have hfx := firstCells_run (P := P) hT w1
 have hfy := firstCells_run (P := P) hT w2
 rw [hs] at hfx hfy
 have hneed : xs.length + ys.length ≤ 140737488355328 := Nat.le_trans (Nat.le_mul_of_pos_right _ hby) hroom
 have hg := growslice_fits (need := xs.length + ys.length) (old := c) (bytes := inf.bytes) (by omega) hroom
 have h48' : ¬ (281474976710656 < Builtin.nextslicecap (xs.length + ys.length) c * inf.bytes) := by omega
 have h63' : ¬ (9223372036854775807 < ((xs.length : Int) + (ys.length : Int))) := by omega
 have hly := lenOf_run (P := P) hy
 refine ⟨grownCap w (xs.length + ys.length) c el, _, ?_, ?_, rfl⟩
 ·simp only [grownCap, Question.cut]; omega
 ·subst hxv
  simp [Builtin.append_, run_underlying hu, run_underlying hu', sizeOf, typeInfo, zeroValue, hi, hz, hly, hfit, h63', h48', Question.forced, hfx, hfy, newRow, grownCap, adr]
  congr 2
  apply Array.ext'
  simp [List.append_assoc]
theorem nils_val {y : TV} {x : Value} (hy : isNils y.t = true) (hx : RepV F m ρ y.t y.v x) : x = .slice none 0 0 := by
 obtain ⟨t, v⟩ := y
 cases t <;> simp [isNils] at hy
 obtain ⟨_, h⟩ := hx
 simpa [Rep] using h
theorem isU8_law {k : KD} (h : isU8 k = true) : k = .int .u8 := by
 unfold isU8 at h
 split at h
 ·rfl
 ·cases h
theorem done_pin (h : RelAt F0 M W0 F ρ s a w) {T : Ty} {k : Cnd R T.den} {id : Nat} {sm : Sem Value} (hk : ∀ u, k.c = some u → ∃ val w1 o, Kept (fun _ => False) w w1 ∧ sm.run P w = .ok val (w1.alloc o) ∧ RepV (fun b => F b ∨ b = w1.heap.size) (mem (w1.alloc o)) ρ T u val) :
  Done P F0 M W0 a w id (Eff.one s T k) sm := by
 intro v hv
 simp only [Eff.one, Cnd.map] at hv
 cases hc : k.c with
 | none => rw [hc] at hv; simp at hv
 | some u =>
  rw [hc] at hv
  obtain rfl := Option.some.inj hv
  obtain ⟨val, w1, o, hk1, h1, h2⟩ := hk u hc
  have g1 := h.grow hk1
  have g2 := (g1.grow (Kept.alloc _ _ o)).frz w1.heap.size (by simp) (fun r c ri hr hρ hb => by
   obtain ⟨ri', e, hc⟩ := g1.cobj r c hr
   rw [hρ] at e; cases e
   exact Nat.lt_irrefl _ (hc.blkLt hb)) (.inl g1.kept.size)
  exact ⟨val, _, _, ρ, h1, fun d => g2.put d ⟨T, u⟩ val h2⟩
theorem row_u8 {xs : List Int} {cs : List Value} (h : Row F m ρ (.int .u8) xs cs) : cs = xs.map (Value.int .u8) := by
 have hl : cs.length = xs.length := by have := h.1; simpa [Ty.size] using this
 apply List.ext_getElem?
 intro i
 rw [List.getElem?_map]
 by_cases hi : i < xs.length
 ·have := h.2 i _ (List.getElem?_eq_getElem hi)
  simp only [Ty.size, Nat.mul_one] at this
  have e : (cs.drop i).take 1 = [Value.int .u8 xs[i]] := this
  have : ((cs.drop i).take 1)[0]? = some (Value.int .u8 xs[i]) := by rw [e]; rfl
  rw [List.getElem?_take] at this
  simp only [if_true, Nat.zero_lt_one, List.getElem?_drop, Nat.add_zero] at this
  rw [this, List.getElem?_eq_getElem hi]; rfl
 ·rw [List.getElem?_eq_none (by omega), List.getElem?_eq_none (by omega)]; rfl
theorem run_bytes_str {x : Value} {xs : List Int} {cs : List Value} {src dst e : TypeId} (h : Src F w ρ x (.int .u8) xs cs) (hs : P.underlying src = some (.slice e)) (he : P.underlying e = some (.int .u8)) (hd : P.underlying dst = some .string) :
  (convert src dst x).run P w = .ok (.string ⟨(s8u xs).toArray⟩) w := by
 obtain ⟨A, c, rfl, h1⟩ := h.val
 have hcs := row_u8 h.row
 have hz : ∀ (A : Option Addr) (c : Nat), (convert src dst (.slice A 0 c)).run P w = .ok (.string ⟨(s8u []).toArray⟩) w := fun A c => by
  cases A with
  | none =>
   rw [run_convert_bytes_nil w src e hs he 0 c dst hd]
   rfl
  | some q =>
   rw [run_convert_bytes_string w src dst e _ 0 c hs he hd, run_bytesToString w q 0 c [] (by rfl)]
   rfl
 rcases h1 with h1 | ⟨p, rfl, h1⟩
 ·have : xs = [] := List.eq_nil_of_length_eq_zero h1
  subst this
  exact hz A c
 ·have := run_convert_bytes_arg w src e hs he p.1 p.2 xs.length c xs rfl (fun i hi => by
   have := h1 i (.int .u8 (xs.getD i 0)) (by rw [hcs, List.getElem?_map, List.getElem?_eq_getElem hi]; simp [List.getD, List.getElem?_eq_getElem hi])
   exact mem_cell this rfl) dst hd
  exact this
theorem conv_law (hT : TabOk P tb) (h : RelAt F0 M W0 F ρ s a w) {src dst : Nat} {x : Operand} {e : Eff R} (he : opConv tb src dst x id s = some e) :
  Done P F0 M W0 a w id e (convert src dst (a.eval x)) := by
 unfold opConv at he
 split at he
 ·rename_i i j k n hi hj hx
  split at he
  ·rename_i k1 k2 h1 h2
   cases he
   have u1 := (hT src i hi).und
   have u2 := (hT dst j hj).und
   rw [h1] at u1; rw [h2] at u2
   refine done_one h fun u hu => ⟨.int k2 (k2.wrap n), ?_, ?_⟩
   ·simp only [convert, Sem.run_bind, run_underlying u1, run_underlying u2, Result.andThen_ok, evInt h hx, Conv.intToInt, Sem.run_pure]
   ·cases hu; exact ⟨rfl, rfl⟩
  ·cases he
 ·rename_i i j l hi hj hx
  split at he
  ·rename_i h1 h2
   cases he
   have u1 := (hT src i hi).und
   have u2 := (hT dst j hj).und
   rw [h1] at u1; rw [h2] at u2
   refine done_one h fun u hu => ⟨.string ⟨l.toArray⟩, ?_, ?_⟩
   ·simp only [convert, Sem.run_bind, run_underlying u1, run_underlying u2, Result.andThen_ok, evStr h hx, Sem.run_pure]
   ·cases hu; exact ⟨rfl, rfl⟩
  ·rename_i el h1 h2
   split at he
   ·rename_i te hte
    split at he
    ·rename_i h8
     cases he
     have u1 := (hT src i hi).und
     have u2 := (hT dst j hj).und
     have u3 := (hT el te hte).und
     rw [h1] at u1; rw [h2] at u2; rw [isU8_law h8] at u3
     refine done_pin h fun u hu => ?_
     cases hu
     rw [evStr h hx]
     refine ⟨_, _, _, Kept.drew _ w _, run_bytes_of_string w src dst el ⟨l.toArray⟩ u1 u2 u3, RepV.of (t := .slice (.int .u8)) ⟨rfl, ?_⟩⟩
     refine ⟨some (adr (w.heap.size, 0)), l.length, grownCap w (⟨l.toArray⟩ : ByteArray).size 0 el, by simp [adr, ByteArray.size], by simp [u8s], ?_, fun _ => ⟨(w.heap.size, 0), rfl, .inr rfl, fun k y hy => ⟨[.int .u8 y], fun q v hq => ?_, rfl⟩⟩⟩
     ·have := grownCap_ge w (⟨l.toArray⟩ : ByteArray).size 0 el
      simpa [ByteArray.size] using this
     ·have hk : k < l.length := by
       rcases Nat.lt_or_ge k l.length with h9 | h9
       ·exact h9
       ·simp [u8s, List.getElem?_eq_none h9] at hy
      cases q with
      | succ q => simp at hq
      | zero =>
       simp only [List.getElem?_cons_zero, Option.some.injEq] at hq
       subst hq
       have hb := bytesRow_at (⟨l.toArray⟩ : ByteArray) (grownCap w (⟨l.toArray⟩ : ByteArray).size 0 el) k (by simpa using hk)
       simp only [u8s, List.getElem?_map, List.getElem?_eq_getElem hk, Option.map_some, Option.some.injEq] at hy
       refine mem_of_cell ?_
       show World.cell? _ ⟨w.heap.size, 0 + k * 1 + 0, none⟩ = _
       rw [show 0 + k * 1 + 0 = k by omega]
       have hc := World.cell?_alloc_mark w.drew (bytesRow (⟨l.toArray⟩ : ByteArray) (grownCap w (⟨l.toArray⟩ : ByteArray).size 0 el)) el ((bytesRow (⟨l.toArray⟩ : ByteArray) (grownCap w (⟨l.toArray⟩ : ByteArray).size 0 el)).size, (bytesRow (⟨l.toArray⟩ : ByteArray) (grownCap w (⟨l.toArray⟩ : ByteArray).size 0 el)).size + 1) k
       refine (Eq.trans ?_ hc).trans (hb.trans ?_)
       ·rfl
       ·rw [← hy]; simp
    ·cases he
   ·cases he
  ·cases he
 ·rename_i i j y _ _ hi hj hx
  split at he
  ·rename_i el h1 h2
   split at he
   ·rename_i te l hte hl
    split at he
    ·rename_i h8
     cases he
     have u1 := (hT src i hi).und
     have u2 := (hT dst j hj).und
     have u3 := (hT el te hte).und
     rw [h1] at u1; rw [h2] at u2; rw [isU8_law h8] at u3
     unfold bytesTV at hl
     refine done_one h fun u hu => ⟨.string ⟨(s8u l).toArray⟩, ?_, by cases hu; exact ⟨rfl, rfl⟩⟩
     split at hl
     ·rename_i hn
      cases hl
      have hxv := nils_val hn (ev_law h hx).1
      rw [hxv]
      exact run_convert_bytes_nil w src el u1 u3 0 0 dst u2
     ·split at hl
      ·rename_i ob hob
       unfold bytesOf at hl
       split at hl
       ·rename_i xs
        cases hl
        obtain ⟨cs, hsrc⟩ := list_src h hob (ev_law h hx).1 rfl
        exact run_bytes_str hsrc u1 u3 u2
       ·cases hl
      ·cases hl
    ·cases he
   ·cases he
  ·cases he
 ·cases he
end Go.Vu
