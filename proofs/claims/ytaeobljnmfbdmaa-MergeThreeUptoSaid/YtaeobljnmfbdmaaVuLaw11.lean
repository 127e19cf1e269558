/- Value semantics, part 16: append, of whatever the state has. -/
import Derived.Test.YtaeobljnmfbdmaaVuLaw10
set_option linter.unusedVariables false
namespace Go.Vu
open Go
variable {P : Program} {tb : Tab} {R : Type} {F0 : Bs} {M F : Nat → Prop} {W0 w w' : World} {ρ : RK → Option RI} {s : St} {a : Act} {m : Nat → Nat → Option Value} {id : Nat}
theorem Row.at' {t : Ty} {xs : List t.den} {cs : List Value} (h : Row F m ρ t xs cs) {b o : Nat} (hc : CellsAt m b o cs) (i : Nat) (x : t.den) (hi : xs[i]? = some x) :
  ∃ ds, CellsAt m b (o + i * t.size) ds ∧ Rep F m ρ t x ds := by
 refine ⟨_, fun j v hj => ?_, h.2 i x hi⟩
 rw [List.getElem?_take] at hj
 split at hj
 ·rw [List.getElem?_drop] at hj
  have := hc _ v hj
  rwa [← Nat.add_assoc] at this
 ·cases hj
theorem empty_law (h : RelAt F0 M W0 F ρ s a w) (hf : ol s.objs id = none) {t : Ty} (hp : t.hold = true) (A : Option Addr) :
  RelAt F0 M W0 F (ext ρ id ⟨none, A, 0, 0, t.size, []⟩) (s.setObj id (.live (.arr ⟨t, []⟩))) a w := by
 have h2 := h.ext id ⟨none, A, 0, 0, t.size, []⟩ hf
 rw [← set_set (a := .dead)]
 refine h2.live id _ (.arr ⟨t, []⟩) (by rw [St.cont_setObj_same]; rfl) ext_same ⟨rfl, rfl, Nat.le_refl _, hp, fun _ => rfl, .inl rfl, fun p hp => (by cases hp), fun p hp => (by cases hp), rfl⟩ (fun b hb => ?_)
 obtain ⟨p, hp, _⟩ := blk_nosub rfl hb
 cases hp
structure OwnAt (w : World) (ρ : RK → Option RI) (F : Nat → Prop) (s : St) (x : Value) (ox : OB) (s' : St) : Prop where
 ex : ∃ (r : RK) (ri : RI) (ob : OB) (off : Nat) (A : Option Addr) (c : Nat), Sets s r none s' ∧ (∀ id : Nat, ol s.objs id = none → ol s'.objs id = none) ∧ s.obj r = some ob ∧ ρ r = some ri ∧ ORep F w ρ ri ob ∧ (ox.t.hold = true ∧ ox.t.size = ob.t.size) ∧
  x = .slice A ox.xs.length c ∧ ox.xs.length ≤ c ∧ off + c ≤ ri.c ∧ (c = 0 ∨ ∃ p, ri.A = some p ∧ A = some (adr (p.1, p.2 + off * ri.sz)))
theorem fresh_dead {r : Nat} {ob : OB} (hr : s.obj r = some ob) : ∀ id : Nat, ol s.objs id = none → ol (s.setObj r .dead).objs id = none := fun id hf => by
 rw [ol_setObj]
 split
 ·rename_i e; subst e; simp [St.obj, St.cont, hf] at hr
 ·exact hf
theorem own_at (h : RelAt F0 M W0 F ρ s a w) {y : TV} {oy : OB} {s' : St} {x : Value} (hy : ownTV s y = some (oy, s')) (hx : RepV F (mem w) ρ y.t y.v x) : OwnAt w ρ F s x oy s' ∧ listTV s y = some oy := by
 obtain ⟨yt, yv⟩ := y
 cases yt <;> simp only [ownTV, reduceCtorEq] at hy
 ·rename_i r
  cases hob : s.obj r with
  | none => simp [hob] at hy
  | some ob =>
   simp only [hob, Option.some.injEq, Prod.mk.injEq] at hy
   obtain ⟨rfl, rfl⟩ := hy
   refine ⟨?_, hob⟩
   obtain ⟨ri, h1, ho⟩ := h.obj r ob hob
   obtain ⟨_, ri', h1', e⟩ := hx
   rw [h1] at h1'; cases h1'
   obtain rfl : x = _ := by simpa using e
   refine ⟨r, ri, ob, 0, ri.raw, ri.c, sets_dead, fresh_dead hob, hob, h1, ho, ⟨ho.pure, rfl⟩, by rw [RI.val, ho.n], by rw [← ho.n]; exact ho.le, by omega, ?_⟩
   cases hA : ri.A with
   | none => exact .inl (ho.none hA)
   | some p =>
    rcases ho.raw with h2 | h2
    ·exact .inl h2
    ·exact .inr ⟨p, rfl, by rw [h2, hA]; simp⟩
 ·rename_i r
  cases hob : s.obj r with
  | none => simp [hob] at hy
  | some ob =>
   simp only [hob, Option.some.injEq, Prod.mk.injEq] at hy
   obtain ⟨rfl, rfl⟩ := hy
   refine ⟨?_, by simp only [listTV, hob]⟩
   obtain ⟨ri, h1, ho⟩ := h.obj r ob hob
   obtain ⟨_, ri', h1', A, c, e, q1, q2, q3, q4, _⟩ := hx
   rw [h1] at h1'; cases h1'
   obtain ⟨v1, v2⟩ : Nat × Nat := yv
   simp only at q1 q2 q3 q4
   obtain rfl : x = _ := by simpa using e
   have hl : ((ob.xs.drop v1).take v2).length = v2 := by simp only [List.length_take, List.length_drop]; have := ho.n; omega
   exact ⟨r, ri, ob, v1, A, c, sets_dead, fresh_dead hob, hob, h1, ho, ⟨ho.pure, rfl⟩, by rw [hl], by rw [hl]; exact q1, q2, q4⟩
theorem part_src {ri : RI} {ob : OB} (ho : ORep F w ρ ri ob) {v1 v2 : Nat} {A : Option Addr} {c : Nat} (q1 : v2 ≤ c) (q2 : v1 + c ≤ ri.c) (q3 : v1 + v2 ≤ ri.n) (q4 : c = 0 ∨ ∃ p, ri.A = some p ∧ A = some (adr (p.1, p.2 + v1 * ri.sz))) :
  ((ob.xs.drop v1).take v2).length = v2 ∧ ∃ cs, Src F w ρ (.slice A v2 c) ob.t ((ob.xs.drop v1).take v2) cs := by
 have hl : ((ob.xs.drop v1).take v2).length = v2 := by simp only [List.length_take, List.length_drop]; have := ho.n; omega
 refine ⟨hl, ?_⟩
 by_cases h0 : v2 = 0
 ·have : List.length ((ob.xs.drop v1).take v2) = 0 := by rw [hl, h0]
  have h5 := List.eq_nil_of_length_eq_zero this
  refine ⟨[], ⟨by simp [h5], fun i x hi => by simp only [h5] at hi; simp at hi⟩, A, c, by rw [hl], .inl this⟩
 ·rcases q4 with q4 | ⟨p, hA, q4⟩
  ·omega
  ·have h5 := ho.cells p hA
   rw [ho.sz] at h5
   have h6 : ∀ (i : Nat) x, ((ob.xs.drop v1).take v2)[i]? = some x → ∃ ds, CellsAt (mem w) p.1 (p.2 + v1 * ob.t.size + i * ob.t.size) ds ∧ Rep F (mem w) ρ ob.t x ds := fun i x hi => by
    have hi' : ob.xs[v1 + i]? = some x := by
     rw [List.getElem?_take] at hi
     split at hi
     ·simpa [List.getElem?_drop] using hi
     ·cases hi
    obtain ⟨ds, h7, h8⟩ := h5 (v1 + i) x hi'
    refine ⟨ds, ?_, h8⟩
    rwa [Nat.add_mul, ← Nat.add_assoc] at h7
   obtain ⟨cs, h7, h8⟩ := row_of (p := (p.1, p.2 + v1 * ob.t.size)) h6
   exact ⟨cs, h7, A, c, by rw [hl], .inr ⟨_, by rw [q4, ho.sz], h8⟩⟩
theorem hget_law (h : RelAt F0 M W0 F ρ s a w) {p : Nat} {q : PL} (hq : pol s.pls p = some q) {v : Option (Nat × Nat × Nat)} {xs : List q.t.den} (hk : hget q.l v = some xs) {x : Value} (hx : RepV F (mem w) ρ (.psl p) v x) :
  (v = none ∧ xs = [] ∧ x = .slice none 0 0) ∨ ∃ i v1 v2 ri ys A c, v = some (i, v1, v2) ∧ xs = (ys.drop v1).take v2 ∧ q.l[i]? = some (some ys) ∧ ρ (.pl p i) = some ri ∧ ORep F w ρ ri ⟨q.t, ys⟩ ∧ x = .slice A v2 c ∧ v2 ≤ c ∧ v1 + c ≤ ri.c ∧ v1 + v2 ≤ ri.n ∧
   (c = 0 ∨ ∃ p, ri.A = some p ∧ A = some (adr (p.1, p.2 + v1 * ri.sz))) := by
 obtain ⟨_, hx⟩ := hx
 rcases hx with ⟨rfl, e⟩ | ⟨i, u, rfl, ri, h1, A, c, e, q1, q2, q3, q4, _⟩
 ·exact .inl ⟨rfl, by cases hk; rfl, by simpa using e⟩
 ·obtain ⟨v1, v2⟩ := u
  simp only [hget] at hk
  split at hk
  ·rename_i ys hys
   cases hk
   obtain ⟨ri', h1', ho⟩ := h.obj (.pl p i) _ (obj_pl hq hys)
   rw [h1] at h1'; cases h1'
   exact .inr ⟨i, v1, v2, ri, ys, A, c, rfl, rfl, hys, h1, ho, by simpa using e, q1, q2, q3, q4⟩
  ·cases hk
theorem nils_src {T : Ty} : Src F w ρ (.slice none 0 0) T [] [] := ⟨⟨by simp, fun i x hi => by simp at hi⟩, none, 0, rfl, .inl rfl⟩
theorem listc_src (h : RelAt F0 M W0 F ρ s a w) {y : TV} {oy : OBc} {x : Value} (hy : listTVc s y = some oy) {xs : List oy.t.den} (hk : oy.k = some xs) (hx : RepV F (mem w) ρ y.t y.v x) (hp : oy.t.hold = true) : ∃ cs, Src F w ρ x oy.t xs cs := by
 unfold listTVc at hy
 split at hy
 ·rename_i p v
  split at hy
  ·rename_i q hq
   cases hy
   simp only at hk xs
   rcases hget_law h hq hk hx with ⟨rfl, rfl, rfl⟩ | ⟨i, v1, v2, ri, ys, A, c, rfl, rfl, h1, h2, ho, rfl, q1, q2, q3, q4⟩
   ·exact ⟨[], nils_src⟩
   ·exact (part_src (ob := ⟨q.t, ys⟩) ho q1 q2 q3 q4).2
  ·cases hy
 ·split at hy
  ·rename_i ob hob
   cases hy
   cases hk
   exact list_src h hob hx hp
  ·cases hy
theorem setPl_same {p : Nat} {q : PL} (hq : pol s.pls p = some q) (h : RelAt F0 M W0 F ρ s a w) : RelAt F0 M W0 F ρ (s.setPl p q) a w :=
 h.less (fun _ => rfl) (fun k c hk => by
  cases k with
  | reg r => exact hk
  | pl p' i =>
   simp only [St.cont, pol_setPl] at hk ⊢
   by_cases e : p = p'
   ·subst e; rw [if_pos rfl] at hk; rw [hq]; exact hk
   ·rw [if_neg e] at hk; exact hk) (fun _ h => h) (fun p' => by
   simp only [St.pln, pol_setPl]
   by_cases e : p = p'
   ·subst e; rw [if_pos rfl, hq]
   ·rw [if_neg e])
theorem ownc_at (h : RelAt F0 M W0 F ρ s a w) {y : TV} {oy : OBc} {s' : St} {x : Value} (hy : ownTVc s y = some (oy, s')) {xs : List oy.t.den} (hk : oy.k = some xs) (hx : RepV F (mem w) ρ y.t y.v x) :
  (oy.t.hold = true ∧ OwnAt w ρ F s x ⟨oy.t, xs⟩ s' ∧ ∃ cs, Src F w ρ x oy.t xs cs) ∨ (xs = [] ∧ x = .slice none 0 0 ∧ RelAt F0 M W0 F ρ s' a w ∧ ∀ id : Nat, ol s.objs id = none → ol s'.objs id = none) := by
 unfold ownTVc at hy
 split at hy
 ·rename_i p v
  split at hy
  ·rename_i q hq
   cases hy
   simp only at hk xs
   rcases hget_law h hq hk hx with ⟨rfl, rfl, rfl⟩ | ⟨i, v1, v2, ri, ys, A, c, rfl, rfl, h1, h2, ho, rfl, q1, q2, q3, q4⟩
   ·exact .inr ⟨rfl, rfl, setPl_same hq h, fun _ h => h⟩
   ·obtain ⟨hl, hsrc⟩ := part_src (ob := ⟨q.t, ys⟩) ho q1 q2 q3 q4
    have hl' : (List.take v2 (List.drop v1 ys)).length = v2 := hl
    refine .inl ⟨ho.pure, ⟨.pl p i, ri, ⟨q.t, ys⟩, v1, A, c, ?_, fun _ h => h, obj_pl hq h1, h2, ho, ⟨ho.pure, rfl⟩, by rw [hl'], by rw [hl']; exact q1, q2, q4⟩, hsrc⟩
    exact sets_pl (o := none) hq (pl_lt h1)
  ·cases hy
 ·split at hy
  ·rename_i ob s1 hob
   cases hy
   cases hk
   obtain ⟨g1, g2⟩ := own_at h hob hx
   have hop : ob.t.hold = true := by
    obtain ⟨r, ri, ob', off, A, c, _, _, _, _, ho, hot, _⟩ := g1.ex
    exact hot.1
   exact .inl ⟨hop, g1, list_src h g2 hx hop⟩
  ·cases hy
theorem append_own (h : RelAt F0 M W0 F ρ s a w) {x y : Value} {ox : OB} {s' : St} (hx : OwnAt w ρ F s x ox s') {cx : List Value} (hsx : Src F w ρ x ox.t ox.xs cx) {ys : List ox.t.den} {cs : List Value} (hsy : Src F w ρ y ox.t ys cs)
  (hf : ol s.objs id = none) {t t' el ty : TypeId} {inf : TypeInfo} {z : Value} (hu : P.underlying t = some (.slice el)) (hu' : ∃ el', P.underlying t' = some (.slice el')) (hi : P.info? el = some inf) (hz : inf.zero = some z)
  (hzl : z.cells.size = inf.size) (hs : ox.t.size = inf.size) (hby : 0 < inf.bytes) (hroom : ys = [] ∨ (ox.xs.length + ys.length) * inf.bytes ≤ 140737488355328) :
  ∃ val w' ρ', (Builtin.append_ #[t, t'] ty #[x, y]).run P w = .ok val w' ∧ RelAt F0 M W0 F ρ' (s'.setObj id (.live (.arr ⟨ox.t, ox.xs ++ ys⟩))) a w' ∧ RepV1 F (mem w') ρ' (.ow id) () val := by
 obtain ⟨r, ri, ob, off, A, c, hset, hfr, hob, hρ, ho, hot, hxv, hle, hc, hA⟩ := hx.ex
 have hp : ox.t.hold = true := hot.1
 have hf' : ol s'.objs id = none := hfr id hf
 have hk := h.dead hset
 by_cases hfit : ox.xs.length + ys.length ≤ c
 ·rcases hA with hA | ⟨p, hA, rfl⟩
  ·have hys : ys = [] := List.eq_nil_of_length_eq_zero (by omega)
   have hxs : ox.xs = [] := List.eq_nil_of_length_eq_zero (by omega)
   subst hys
   have hcs : cs = [] := List.eq_nil_of_length_eq_zero (by have := hsy.row.1; simpa using this)
   subst hcs
   obtain ⟨w', h1, h2, h3⟩ := append_fits (P := P) (ty := ty) hu hu' hi hp hs hsy (A := A) (n := ox.xs.length) (c := c) hfit (fun q hq => ⟨w, rfl⟩)
   have hw : w' = w := by
    cases A with
    | none => exact h2 rfl
    | some q =>
     have := h3 q rfl
     simp only [storeCells, Sem.run_pure] at this
     cases this; rfl
   subst hw
   refine ⟨_, w', _, by rw [hxv]; exact h1, by rw [hxs]; exact empty_law hk hf' hp A, rfl, _, ext_same, ?_⟩
   simp [RI.val, hxs]; omega
  ·obtain ⟨cells, el2, hb, hsz⟩ := ho.block p hA
   have hcl := hsy.row.1
   have hszr : ri.sz = inf.size := by rw [ho.sz, ← hot.2, hs]
   have hown := h.own r ob ri p hob hρ hA
   have hfit2 : p.2 + off * ri.sz + ox.xs.length * ri.sz + cs.length ≤ cells.size := by
    rw [hcl, hs, ← hszr]
    have h1 : (off + (ox.xs.length + ys.length)) * ri.sz ≤ ri.c * ri.sz := Nat.mul_le_mul_right _ (by omega)
    rw [Nat.add_mul, Nat.add_mul] at h1
    omega
   have hst := run_storeCells_at P p.1 (p.2 + off * ri.sz + ox.xs.length * inf.size) el2 cs 0 cells w hb (by rw [← hszr]; omega) (hsy.row.one hp)
   rw [Nat.add_zero] at hst
   obtain ⟨w', h1, _, h3⟩ := append_fits (P := P) (ty := ty) hu hu' hi hp hs hsy (A := some (adr (p.1, p.2 + off * ri.sz))) (n := ox.xs.length) (c := c) hfit (fun q hq => by
    cases hq; rw [adr_add]; exact ⟨_, hst⟩)
   have hw := h3 _ rfl
   rw [adr_add] at hw
   have hw' : w' = w.setRow p.1 (cells.toList.take (p.2 + off * ri.sz + ox.xs.length * inf.size) ++ cs ++ cells.toList.drop (p.2 + off * ri.sz + ox.xs.length * inf.size + cs.length)).toArray := by
    have := hw.symm.trans hst
    cases this; rfl
   have hcells : (cells.toList.take (p.2 + off * ri.sz + ox.xs.length * inf.size) ++ cs ++ cells.toList.drop (p.2 + off * ri.sz + ox.xs.length * inf.size + cs.length)).toArray.size = cells.size := by
    simp only [List.size_toArray, List.length_append, List.length_take, List.length_drop, Array.length_toList]
    rw [← hszr]; omega
   have hget : ∀ k, ((cells.toList.take (p.2 + off * ri.sz + ox.xs.length * inf.size) ++ cs ++ cells.toList.drop (p.2 + off * ri.sz + ox.xs.length * inf.size + cs.length)).toArray)[k]? =
     if k < p.2 + off * ri.sz + ox.xs.length * inf.size then cells[k]? else if k < p.2 + off * ri.sz + ox.xs.length * inf.size + cs.length then cs[k - (p.2 + off * ri.sz + ox.xs.length * inf.size)]? else cells[k]? := fun k => by
    rw [List.getElem?_toArray, seg_get (by rw [← hszr]; simpa using hfit2)]; simp
   generalize hcc : (cells.toList.take (p.2 + off * ri.sz + ox.xs.length * inf.size) ++ cs ++ cells.toList.drop (p.2 + off * ri.sz + ox.xs.length * inf.size + cs.length)).toArray = cells' at hw' hcells hget
   subst hw'
   have hdead : ∀ q c', s'.cont q = some c' → q ≠ r ∧ s.cont q = some c' := fun q c' hq => by
    rw [hset.cont] at hq
    split at hq
    ·cases hq
    ·rename_i e; exact ⟨e, hq⟩
   have hcr := St.obj_cont.1 hob
   have hkw := hk.world (fun b => b = p.1) (setRow_kept (g := p.1) (cs := cells') hb hcells) (fun b hb' => by
    subst hb'
    refine ⟨hown.1, fun q c2 ri2 hq e1 e2 => ?_, fun hl => hown.2.elim (fun h3 => absurd hl (by omega)) (fun hm => hm)⟩
    obtain ⟨hn, hq'⟩ := hdead q c2 hq
    exact hn (h.csep q r c2 _ ri2 ri _ hq' hcr e1 hρ e2 (RI.blkA hA)))
   have hext := hkw.ext id ⟨some (p.1, p.2 + off * ri.sz), some (adr (p.1, p.2 + off * ri.sz)), ox.xs.length + ys.length, c, inf.size, []⟩ hf'
   have h0 : ρ id = none := h.fresh id hf
   have hF : ∀ b, F b → ∀ j v, mem w b j = some v → mem (w.setRow p.1 cells') b j = some v := fun b hb' j v hv => by
    rw [mem_of_block (setRow_other w p.1 b cells' (fun e => hown.1 (e ▸ hb')))]; exact hv
   have hb2 := setRow_heap w p.1 cells cells' el2 (0, 0) hb
   have hrow : Row F (mem (w.setRow p.1 cells')) (ext ρ id ⟨some (p.1, p.2 + off * ri.sz), some (adr (p.1, p.2 + off * ri.sz)), ox.xs.length + ys.length, c, inf.size, []⟩) ox.t (ox.xs ++ ys) (cx ++ cs) :=
    (hsx.row.append hsy.row).mono (fun _ h => h) hF (ext_le h0)
   have hcx : CellsAt (mem w) p.1 (p.2 + off * ri.sz) cx := by
    obtain ⟨A', c', e, hv⟩ := hsx.val
    rw [hxv] at e
    simp only [Value.slice.injEq, true_and] at e
    rcases hv with hv | ⟨q, hq, hv⟩
    ·have : cx = [] := List.eq_nil_of_length_eq_zero (by rw [hsx.row.1, hv]; simp)
     subst this
     exact fun j v hj => by simp at hj
    ·rw [← e.1] at hq
     simp only [adr, Option.some.injEq, Addr.mk.injEq, and_true] at hq
     rw [hq.1, hq.2]; exact hv
   have hat : CellsAt (mem (w.setRow p.1 cells')) p.1 (p.2 + off * ri.sz) (cx ++ cs) := fun j v hj => by
    have hm : ∀ k, mem (w.setRow p.1 cells') p.1 k = cells'[k]? := fun k => by simp [mem, World.cell?, hb2]
    rw [hm, hget]
    have hl := hsx.row.1
    rw [hs] at hl
    by_cases hj2 : j < cx.length
    ·rw [List.getElem?_append_left hj2] at hj
     rw [if_pos (by omega)]
     exact mem_cells hb (hcx j v hj)
    ·rw [List.getElem?_append_right (by omega)] at hj
     have hjl : j - cx.length < cs.length := by
      rcases Nat.lt_or_ge (j - cx.length) cs.length with h5 | h5
      ·exact h5
      ·simp [List.getElem?_eq_none h5] at hj
     rw [if_neg (by omega), if_pos (by omega)]
     rw [show p.2 + off * ri.sz + j - (p.2 + off * ri.sz + ox.xs.length * inf.size) = j - cx.length by omega]
     exact hj
   refine ⟨_, _, ext ρ id ⟨some (p.1, p.2 + off * ri.sz), some (adr (p.1, p.2 + off * ri.sz)), ox.xs.length + ys.length, c, inf.size, []⟩, by rw [hxv]; exact h1, ?_, rfl, _, ext_same, rfl⟩
   rw [← set_set (s := s') (a := .dead)]
   refine hext.live id _ (.arr ⟨ox.t, ox.xs ++ ys⟩) (by rw [St.cont_setObj_same]; rfl) ext_same ⟨by simp, by simp [hs], hfit, hp, fun e => (by cases e), .inr rfl, fun p' hp' => ?_, fun p' hp' i x hi => ?_, rfl⟩ (fun b hb' => ?_)
   ·cases hp'
    refine ⟨cells', el2, hb2, ?_⟩
    rw [hcells, ← hszr]
    have h5 : (off + c) * ri.sz ≤ ri.c * ri.sz := Nat.mul_le_mul_right _ hc
    rw [Nat.add_mul] at h5
    show p.2 + off * ri.sz + c * ri.sz ≤ _
    omega
   ·cases hp'
    have := hrow.at' hat i x hi
    rwa [hs] at this
   ·obtain ⟨p', hp', rfl⟩ := blk_nosub rfl hb'
    cases hp'
    refine ⟨hown.1, hown.2, fun q c2 ri2 hq e1 e2 => ?_⟩
    have hqid : q ≠ id := fun e => by
     subst e
     rw [St.cont_setObj_same] at hq; cases hq
    rw [St.cont_setObj_ne' (Ne.symm hqid)] at hq
    obtain ⟨hn, hq'⟩ := hdead q c2 hq
    rw [ext_ne hqid] at e1
    exact hn (h.csep q r c2 _ ri2 ri _ hq' hcr e1 hρ e2 (show ri.blk p.1 from RI.blkA hA))
 ·have hroom' : (ox.xs.length + ys.length) * inf.bytes ≤ 140737488355328 := by
   rcases hroom with h5 | h5
   ·subst h5; simp only [List.length_nil, Nat.add_zero] at hfit; omega
   ·exact h5
  obtain ⟨cap, rest, g1, g2, g3⟩ := append_grows (P := P) (ty := ty) hu hu' hi hz hp hs hby hsx hsy hxv hfit hroom'
  have hkd : RelAt F0 M W0 F ρ s' a w.drew := hk.grow (Kept.drew _ _ _)
  have hl := (hsx.row.append hsy.row).1
  have hnew := new_law hkd hf' (t := ox.t) (xs := ox.xs ++ ys) (cells := cx.toArray ++ cs.toArray ++ Builtin.zeroCells z.cells rest) (el := el) (c := cap) hp (by simp; omega) (by
    rw [Array.size_append, size_zeroCells, hzl, g3, hs]
    simp only [Array.size_append, List.size_toArray]
    rw [List.length_append, List.length_append, hs] at hl
    rw [hl, Nat.mul_sub_right_distrib]
    have : (ox.xs.length + ys.length) * inf.size ≤ cap * inf.size := Nat.mul_le_mul_right _ g1
    omega) (fun i x hi => by
    obtain ⟨ds, q1, q2⟩ := (hsx.row.append hsy.row).cells (rest := (Builtin.zeroCells z.cells rest).toList) [] i x hi
    refine ⟨ds, fun j v hj => ?_, q2⟩
    have := q1 j v hj
    simp only [List.nil_append, List.length_nil, Nat.zero_add] at this
    rw [← this, ← List.getElem?_toArray]
    congr 1
    apply Array.ext'
    simp)
  refine ⟨_, _, _, g2, hnew, rfl, _, ext_same, ?_⟩
  simp only [RI.val, List.length_append]
  rfl
theorem append_nil (h : RelAt F0 M W0 F ρ s a w) (hf : ol s.objs id = none) {T : Ty} (hp : T.hold = true) {vy : Value} {ys : List T.den} {cs : List Value} (hsy : Src F w ρ vy T ys cs)
  {t t' el ty : TypeId} {inf : TypeInfo} {z : Value} (hu : P.underlying t = some (.slice el)) (hu' : ∃ el', P.underlying t' = some (.slice el')) (hi : P.info? el = some inf) (hz : inf.zero = some z)
  (hzl : z.cells.size = inf.size) (hs : T.size = inf.size) (hby : 0 < inf.bytes) (hroom : ys.length * inf.bytes ≤ 140737488355328) :
  ∃ val w' ρ', (Builtin.append_ #[t, t'] ty #[.slice none 0 0, vy]).run P w = .ok val w' ∧ RelAt F0 M W0 F ρ' (s.setObj id (.live (.arr ⟨T, ys⟩))) a w' ∧ RepV1 F (mem w') ρ' (.ow id) () val := by
 by_cases h0 : ys = []
 ·obtain ⟨w', q1, q2, _⟩ := append_fits (P := P) (ty := ty) hu hu' hi hp hs hsy (A := none) (n := 0) (c := 0) (by simp [h0]) (fun q hq => by cases hq)
  rw [q2 rfl] at q1
  refine ⟨_, w, _, q1, by rw [h0]; exact empty_law h hf hp none, ?_⟩
  exact ⟨rfl, _, ext_same, by simp [RI.val, h0]⟩
 ·have hpos : ys.length ≠ 0 := fun e => h0 (List.eq_nil_of_length_eq_zero e)
  obtain ⟨cap, rest, g1, g2, g3⟩ := append_grows (P := P) (ty := ty) hu hu' hi hz hp hs hby (nils_src (F := F) (w := w) (ρ := ρ)) hsy (A := none) (c := 0) rfl (by simp; omega) (by simpa using hroom)
  have hd : RelAt F0 M W0 F ρ s a w.drew := h.grow (Kept.drew _ _ _)
  have hl := hsy.row.1
  have hnew := new_law hd hf (t := T) (xs := ys) (cells := #[] ++ cs.toArray ++ Builtin.zeroCells z.cells rest) (el := el) (c := cap) hp (by simpa using g1) (by
    rw [Array.size_append, size_zeroCells, hzl, g3, hs]
    simp only [Array.size_append, List.size_toArray, List.length_nil, Nat.zero_add]
    rw [hs] at hl
    rw [hl, Nat.mul_sub_right_distrib]
    have : ys.length * inf.size ≤ cap * inf.size := Nat.mul_le_mul_right _ (by simpa using g1)
    simp; omega) (fun i x hi => by
    obtain ⟨ds, q1, q2⟩ := hsy.row.cells (rest := (Builtin.zeroCells z.cells rest).toList) [] i x hi
    refine ⟨ds, fun j v hj => ?_, q2⟩
    have := q1 j v hj
    simp only [List.nil_append, List.length_nil, Nat.zero_add] at this
    rw [← this, ← List.getElem?_toArray]
    congr 1
    apply Array.ext'
    simp)
  refine ⟨_, _, _, g2, hnew, rfl, _, ext_same, ?_⟩
  simp only [RI.val, List.length_nil, Nat.zero_add]
  rfl
theorem OwnAt.retype {x : Value} {ox : OB} {s' : St} (h : OwnAt w ρ F s x ox s') (he : ox.xs = []) {T : Ty} (hp : T.hold = true) (hs : T.size = ox.t.size) : OwnAt w ρ F s x ⟨T, []⟩ s' := by
 obtain ⟨r, ri, ob, off, A, c, h1, h2, h3, h4, h5, h6, h7, h8, h9, h10⟩ := h.ex
 rw [he] at h7
 exact ⟨r, ri, ob, off, A, c, h1, h2, h3, h4, h5, ⟨hp, hs.trans h6.2⟩, h7, Nat.zero_le _, h9, h10⟩
theorem Src.retype {x : Value} {t : Ty} {xs : List t.den} {cs : List Value} (h : Src F w ρ x t xs cs) (he : xs = []) (T : Ty) : Src F w ρ x T [] [] := by
 subst he
 obtain ⟨A, c, h1, _⟩ := h.val
 exact ⟨⟨by simp, fun i x hi => by simp at hi⟩, A, c, h1, .inl rfl⟩
theorem append_law (hT : TabOk P tb) (h : RelAt F0 M W0 F ρ s a w) (hf : ol s.objs id = none) {ts : Array TypeId} {ty : Nat} {args : Array Operand} {e : Eff R} (he : opAppend tb ts args id s = some e) :
  Done P F0 M W0 a w id e (Builtin.append_ ts ty (args.map a.eval)) := by
 unfold opAppend at he
 split at he
 ·rename_i t t' x y hts hargs
  have hts' : ts = #[t, t'] := by apply Array.ext'; simpa using hts
  subst hts'
  obtain ⟨vx, xs, hv, hx, hx1, vy, xs', hv', hy, hy1, hv''⟩ := evs_law h hargs
  subst hv''
  subst hv'
  have hargs' : args.map a.eval = #[vx, vy] := by apply Array.ext'; rw [Array.toList_map, hv]
  rw [hargs']
  split at he
  ·rename_i e' e'' hel hel'
   split at he
   ·rename_i hc
    simp only [Bool.and_eq_true, beq_iff_eq, decide_eq_true_eq] at hc
    obtain ⟨⟨hby, hep⟩, hesz⟩ := hc
    obtain ⟨el, inf, h1, h2, h3, h4, h5⟩ := elemOf_law hT hel
    obtain ⟨el', inf2, h1', _⟩ := elemOf_law hT hel'
    obtain ⟨inf', i1, i2, i3, i4⟩ := h2.info
    rw [h3] at i1; cases i1
    obtain ⟨z, hz, hz'⟩ := i4 (pure_notAny hep)
    have hzl := Rep.length _ _ _ (hz' F (mem w) ρ).cells
    simp only [Array.length_toList] at hzl
    have hzl' : z.cells.size = inf.size := by omega
    have hby' : 0 < inf.bytes := by omega
    split at he
    ·rename_i hxn
     have := nils_val hxn hx
     subst this
     split at he
     ·rename_i hyn
      have := nils_val hyn hy
      subst this
      cases he
      refine done_ret h (val := .slice none 0 0) ?_ (RepV.of (t := .nils) ⟨rfl, rfl⟩)
      obtain ⟨w', q1, q2, _⟩ := append_fits (P := P) (w := w) (F := F) (ρ := ρ) (ty := ty) h1 ⟨el', h1'⟩ h3 (T := e'.ty) (Ty.hold_of_pure _ (by assumption)) (by omega) nils_src (A := none) (n := 0) (c := 0) (by simp) (fun q hq => by cases hq)
      rw [q2 rfl] at q1
      simpa using q1
     ·rename_i hyn
      split at he
      ·rename_i oy hoy
       split at he
       ·rename_i hoc
        simp only [Bool.and_eq_true, beq_iff_eq] at hoc
        cases he
        intro v hv
        simp only [Eff.new, Cnd.map, Cnd.test, Cnd.bind, Cnd.look] at hv
        cases hk : oy.k with
        | none => rw [hk] at hv; simp at hv
        | some ys =>
        rw [hk] at hv
        obtain ⟨cs, hsy⟩ := listc_src h hoy hk hy hoc.1
        have hosz : oy.t.size = inf.size := by rw [hoc.2, h4]
        cases hr : roomOk ys.length e'.bys with
        | false => simp [hr] at hv
        | true =>
         simp only [hr, Option.bind_some, cond_true, Option.map_some] at hv
         obtain rfl := Option.some.inj hv
         simp only [roomOk, decide_eq_true_eq] at hr
         obtain ⟨val, w', ρ', q1, q2, q3⟩ := append_nil h hf hoc.1 hsy (ty := ty) h1 ⟨el', h1'⟩ h3 hz hzl' hosz hby' (by rw [h5]; exact hr)
         exact ⟨val, w', F, ρ', q1, fun d => RelAt.put q2 d ⟨.ow id, ()⟩ _ (RepV.of q3)⟩
       ·cases he
      ·cases he
    ·rename_i hxn
     split at he
     ·rename_i ox s' hox
      split at he
      ·rename_i hos
       simp only [Bool.and_eq_true, beq_iff_eq] at hos
       obtain ⟨hos, hop⟩ := hos
       have hos : ox.t.size = inf.size := by rw [h4]; exact hos
       split at he
       ·rename_i hyn
        have := nils_val hyn hy
        subst this
        cases he
        intro v hv
        simp only [Eff.new, Cnd.map, Cnd.look] at hv
        cases hk : ox.k with
        | none => rw [hk] at hv; simp at hv
        | some xs =>
        rw [hk] at hv
        obtain rfl := Option.some.inj hv
        rcases ownc_at h hox hk hx with ⟨hop, hown, cx, hsx⟩ | ⟨rfl, rfl, hs', hfr⟩
        ·obtain ⟨val, w', ρ', q1, q2, q3⟩ := append_own h hown hsx (nils_src (T := ox.t)) hf (ty := ty) h1 ⟨el', h1'⟩ h3 hz hzl' hos hby' (.inl rfl)
         rw [List.append_nil] at q2
         exact ⟨val, w', F, ρ', q1, fun d => RelAt.put q2 d ⟨.ow id, ()⟩ _ (RepV.of q3)⟩
        ·obtain ⟨val, w', ρ', q1, q2, q3⟩ := append_nil hs' (hfr id hf) hop (nils_src (T := ox.t)) (ty := ty) h1 ⟨el', h1'⟩ h3 hz hzl' hos hby' (by simp)
         exact ⟨val, w', F, ρ', q1, fun d => RelAt.put q2 d ⟨.ow id, ()⟩ _ (RepV.of q3)⟩
       ·split at he
        ·rename_i oy hoy
         split at he
         ·rename_i hot
          obtain ⟨oyt, oyk⟩ := oy
          simp only at hot
          subst hot
          cases he
          intro v hv
          simp only [Eff.new, Cnd.map, Cnd.test, Cnd.bind, Cnd.look] at hv
          cases hk : ox.k with
          | none => rw [hk] at hv; simp at hv
          | some xs =>
          cases hk2 : oyk with
          | none => rw [hk, hk2] at hv; simp at hv
          | some ys =>
          rw [hk, hk2] at hv
          cases hr : roomOk (xs.length + ys.length) e'.bys with
          | false => simp [hr] at hv
          | true =>
           simp only [hr, Option.bind_some, cond_true, Option.map_some] at hv
           obtain rfl := Option.some.inj hv
           simp only [roomOk, decide_eq_true_eq] at hr
           obtain ⟨cs, hsy⟩ := listc_src h hoy hk2 hy hop
           rcases ownc_at h hox hk hx with ⟨_, hown, cx, hsx⟩ | ⟨rfl, rfl, hs', hfr⟩
           ·obtain ⟨val, w', ρ', q1, q2, q3⟩ := append_own h hown hsx hsy hf (ty := ty) h1 ⟨el', h1'⟩ h3 hz hzl' hos hby' (.inr (by rw [h5]; exact hr))
            exact ⟨val, w', F, ρ', q1, fun d => RelAt.put q2 d ⟨.ow id, ()⟩ _ (RepV.of q3)⟩
           ·obtain ⟨val, w', ρ', q1, q2, q3⟩ := append_nil hs' (hfr id hf) hop hsy (ty := ty) h1 ⟨el', h1'⟩ h3 hz hzl' hos hby' (by rw [h5]; simpa using hr)
            exact ⟨val, w', F, ρ', q1, fun d => RelAt.put q2 d ⟨.ow id, ()⟩ _ (RepV.of q3)⟩
         ·split at he
          ·rename_i hoc
           simp only [Bool.and_eq_true, beq_iff_eq] at hoc
           have hosz : oy.t.size = inf.size := by rw [hoc.2, h4]
           cases he
           intro v hv
           simp only [Eff.new, Cnd.map, Cnd.test, Cnd.bind, Cnd.look] at hv
           cases hk : ox.k with
           | none => rw [hk] at hv; simp at hv
           | some xs =>
           cases hk2 : oy.k with
           | none => rw [hk, hk2] at hv; simp at hv
           | some ys =>
           rw [hk, hk2] at hv
           cases hr : (xs.isEmpty && roomOk ys.length e'.bys) with
           | false => simp [hr] at hv
           | true =>
            simp only [hr, Option.bind_some, cond_true, Option.map_some] at hv
            obtain rfl := Option.some.inj hv
            simp only [roomOk, Bool.and_eq_true, List.isEmpty_iff, decide_eq_true_eq] at hr
            obtain ⟨hxe, hr⟩ := hr
            obtain ⟨cs, hsy⟩ := listc_src h hoy hk2 hy hoc.1
            rcases ownc_at h hox hk hx with ⟨_, hown, cx, hsx⟩ | ⟨rfl, rfl, hs', hfr⟩
            ·obtain ⟨val, w', ρ', q1, q2, q3⟩ := append_own h (hown.retype hxe hoc.1 (hosz.trans hos.symm)) (hsx.retype hxe oy.t) hsy hf (ty := ty) h1 ⟨el', h1'⟩ h3 hz hzl' hosz hby' (.inr (by rw [h5]; simpa using hr))
             exact ⟨val, w', F, ρ', q1, fun d => RelAt.put q2 d ⟨.ow id, ()⟩ _ (RepV.of q3)⟩
            ·obtain ⟨val, w', ρ', q1, q2, q3⟩ := append_nil hs' (hfr id hf) hoc.1 hsy (ty := ty) h1 ⟨el', h1'⟩ h3 hz hzl' hosz hby' (by rw [h5]; exact hr)
             exact ⟨val, w', F, ρ', q1, fun d => RelAt.put q2 d ⟨.ow id, ()⟩ _ (RepV.of q3)⟩
          ·cases he
        ·cases he
      ·cases he
     ·cases he
   ·cases he
  ·cases he
 ·cases he
end Go.Vu
