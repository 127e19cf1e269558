/- Value semantics, part 9: addresses, parts, arithmetic. -/
import Derived.Test.YtaeobljnmfbdmaaVuLaw3
set_option linter.unusedVariables false
namespace Go.Vu
open Go
variable {P : Program} {tb : Tab} {R : Type} {F0 : Bs} {M F : Nat → Prop} {W0 w w' : World} {ρ : RK → Option RI} {s : St} {a : Act} {m : Nat → Nat → Option Value} {id : Nat}
theorem fieldOff_law (hT : TabOk P tb) {t f off ft : Nat} (h : fieldOff tb t f = some (off, ft)) :
  ∃ fields fd inf, P.underlying t = some (.struct fields) ∧ fields[f]? = some fd ∧ fd.offset = off ∧ fd.type = ft ∧ P.info? ft = some inf ∧ inf.size ≠ 0 := by
 unfold fieldOff at h
 split at h
 ·rename_i i hi
  split at h
  ·rename_i fs hk
   have hu := (hT t i hi).und
   rw [hk] at hu
   obtain ⟨fields, h1, h2, h3⟩ := hu
   rw [← h2, List.getElem?_map] at h
   cases hf : fields.toList[f]? with
   | none => simp [hf] at h
   | some fd =>
    simp only [hf, Option.map_some, Option.some.injEq, Prod.mk.injEq] at h
    obtain ⟨_, inf, h4, h5⟩ := h3 fd (List.mem_of_getElem? hf)
    exact ⟨fields, fd, inf, h1, by simpa using hf, h.1, h.2, by rw [← h.2]; exact h4, h5⟩
  ·cases h
 ·cases h
theorem fieldAddr_law (hT : TabOk P tb) (h : RelAt F0 M W0 F ρ s a w) {t f : Nat} {x : Operand} {e : Eff R} (he : opFieldAddr tb t x f s = some e) :
  Done P F0 M W0 a w id e (Instr.fieldAt t (a.eval x) f) := by
 unfold opFieldAddr at he
 split at he
 ·rename_i off ft r o i hf hx
  cases he
  obtain ⟨fields, fd, inf, h1, h2, rfl, rfl, h4, h5⟩ := fieldOff_law hT hf
  obtain ⟨ri, p, h6, h7, h8⟩ := evOad h hx
  refine done_one h fun u hu => ⟨.pointer (some (adr (p.1, p.2 + i.toNat * ri.sz + (o + fd.offset)))), ?_, ?_⟩
  ·simp only [Instr.fieldAt, Sem.run_bind, run_underlying h1, Result.andThen_ok, h2, h8, Instr.sureAddr, Sem.run_pure, fieldPlace, run_sizeOf h4, Sem.run_ite, if_neg h5, adr_add]
   simp [Nat.add_assoc]
  ·cases hu
   exact ⟨rfl, ri, p, h6, h7, rfl⟩
 ·rename_i off ft q o i hf hx
  cases he
  obtain ⟨fields, fd, inf, h1, h2, rfl, rfl, h4, h5⟩ := fieldOff_law hT hf
  obtain ⟨ri, p, h6, h7, h8⟩ := evPdd h hx
  refine done_one h fun u hu => ⟨.pointer (some (adr (p.1, p.2 + i.2.toNat * ri.sz + (o + fd.offset)))), ?_, ?_⟩
  ·simp only [Instr.fieldAt, Sem.run_bind, run_underlying h1, Result.andThen_ok, h2, h8, Instr.sureAddr, Sem.run_pure, fieldPlace, run_sizeOf h4, Sem.run_ite, if_neg h5, adr_add]
   simp [Nat.add_assoc]
  ·cases hu
   exact ⟨rfl, ri, p, h6, h7, rfl⟩
 ·rename_i off ft T o v hf hx
  cases he
  obtain ⟨fields, fd, inf, h1, h2, rfl, rfl, h4, h5⟩ := fieldOff_law hT hf
  obtain ⟨p, ds, h6, h7⟩ := evRad h hx
  refine done_one h fun u hu => ⟨.pointer (some (adr (p.1, p.2 + (o + fd.offset)))), ?_, ?_⟩
  ·simp only [Instr.fieldAt, Sem.run_bind, run_underlying h1, Result.andThen_ok, h2, h6, Instr.sureAddr, Sem.run_pure, fieldPlace, run_sizeOf h4, Sem.run_ite, if_neg h5, adr_add]
   simp [Nat.add_assoc]
  ·cases hu
   exact ⟨rfl, p, ds, rfl, h7⟩
 ·rename_i off ft r o v hf hx
  cases he
  obtain ⟨fields, fd, inf, h1, h2, rfl, rfl, h4, h5⟩ := fieldOff_law hT hf
  obtain ⟨ri, p, h6, h7, h8⟩ := evPad h hx
  refine done_one h fun u hu => ⟨.pointer (some (adr (p.1, p.2 + (o + fd.offset)))), ?_, ?_⟩
  ·simp only [Instr.fieldAt, Sem.run_bind, run_underlying h1, Result.andThen_ok, h2, h8, Instr.sureAddr, Sem.run_pure, fieldPlace, run_sizeOf h4, Sem.run_ite, if_neg h5, adr_add]
   simp [Nat.add_assoc]
  ·cases hu
   exact ⟨rfl, ri, p, h6, h7, rfl⟩
 ·cases he
theorem part_law {t : Nat} {i : TI} (ht : TIOk P t i) {l : Ty} (hs : isSt l = i.agg) (hz : i.sz = l.size) (h1 : isSt l = false → i.sz = 1) (hp : l.cell = true) {v : l.den} {c1 c2 c3 : List Value}
  (hr : Rep F (mem w) ρ l v c2) : ∃ val, (part t (c1 ++ c2 ++ c3).toArray c1.length).run P w = .ok val w ∧ RepV1 F (mem w) ρ l v val := by
 have hl := Rep.length l v c2 hr
 obtain ⟨info, hi, hsz, _⟩ := ht.info
 cases hag : i.agg with
 | true =>
  refine ⟨.agg c2.toArray, ?_, ?_⟩
  ·have : (sizeOf t).run P w = .ok c2.length w := by rw [run_sizeOf hi, hsz, hz, hl]
   simp only [part, Sem.run_bind, ht.agg w, hag, Result.andThen_ok, if_true, this, Sem.run_pure]
   congr 2
   apply Array.ext'
   simp
  ·unfold RepV1; rw [if_pos (by rw [hs, hag])]; exact ⟨c2, rfl, hr⟩
 | false =>
  have hs0 : isSt l = false := by rw [hs, hag]
  have : c2.length = 1 := by rw [hl, ← hz, h1 hs0]
  obtain ⟨x, rfl⟩ := List.length_eq_one_iff.1 this
  refine ⟨x, ?_, ?_⟩
  ·simp only [part, Sem.run_bind, ht.agg w, hag, Result.andThen_ok, Bool.false_eq_true, if_false]
   simp
  ·unfold RepV1; rw [if_neg (by simp [hs0])]; exact ⟨Rep.one l v _ hp hr x (by simp), hr⟩
theorem field_law (hT : TabOk P tb) (h : RelAt F0 M W0 F ρ s a w) {t f : Nat} {x : Operand} {e : Eff R} (he : opField tb t x f s = some e) :
  Done P F0 M W0 a w id e (Instr.field t (a.eval x) f) := by
 unfold opField at he
 split at he
 ·rename_i off ft T v hf hx
  split at he
  ·rename_i i hi
   split at he
   ·rename_i l hl
    split at he
    ·rename_i hp
     cases he
     obtain ⟨fields, fd, inf, h1, h2, rfl, rfl, h4, h5⟩ := fieldOff_law hT hf
     obtain ⟨cs, h6, h7⟩ := (ev_law h hx).1
     obtain ⟨s1, s2, c1, c2, c3, e1, e2, h8, _⟩ := comp_law _ _ _ _ _ hl v cs h7
     obtain ⟨val, h9, h10⟩ := part_law (hT _ i hi) s2 s1 (comp_one _ _ _ _ _ hl) (comp_cell _ _ _ _ _ hl hp) (c1 := c1) (c3 := c3) h8
     refine done_one h fun u hu => ⟨val, ?_, ?_⟩
     ·simp only [Instr.field, Sem.run_bind, run_underlying h1, Result.andThen_ok, h2, h6, asAgg, Sem.run_pure]
      rw [e1, ← e2]; exact h9
     ·cases hu; exact RepV.of h10
    ·cases he
   ·cases he
  ·cases he
 ·cases he
theorem elemOf_law (hT : TabOk P tb) {t : Nat} {e : TI} (h : elemOf' tb t = some e) : ∃ el inf, P.underlying t = some (.slice el) ∧ TIOk P el e ∧ P.info? el = some inf ∧ inf.size = e.sz ∧ inf.bytes = e.bys := by
 unfold elemOf' at h
 split at h
 ·rename_i i hi
  split at h
  ·rename_i el hk
   have hu := (hT t i hi).und
   rw [hk] at hu
   obtain ⟨inf, h1, h2, h3, _⟩ := (hT el e h).info
   exact ⟨el, inf, hu, hT el e h, h1, h2, h3⟩
  ·cases h
 ·cases h
theorem indexAt_run {t el : Nat} {inf : TypeInfo} (hu : P.underlying t = some (.slice el)) (hi : P.info? el = some inf) {p : Nat × Nat} {n c : Nat} {k : IntKind} {i : Int} (h0 : 0 ≤ i) (h1 : i < n) :
  (Instr.indexAt t (.slice (some (adr p)) n c) (.int k i)).run P w = .ok (.pointer (some (adr (p.1, p.2 + i.toNat * inf.size)))) w := by
 simp only [Instr.indexAt, asIntOf, Sem.run_bind, Sem.run_pure, Result.andThen_ok, run_underlying hu, Sem.run_ite, if_pos (And.intro h0 h1), run_sizeOf hi, adr_add]
theorem indexAddrS_law (hT : TabOk P tb) (h : RelAt F0 M W0 F ρ s a w) {t : Nat} {x ix : Operand} {e : Eff R} (he : opIndexAddrS tb t x ix s = some e) :
  Done P F0 M W0 a w id e (Instr.indexAt t (a.eval x) (a.eval ix)) := by
 unfold opIndexAddrS at he
 split at he
 ·rename_i e' T xs k i hel hx hix
  split at he
  ·rename_i hsz
   cases he
   obtain ⟨el, inf, h1, h2, h3, h4, _⟩ := elemOf_law hT hel
   obtain ⟨A, n, c, h5, h6, h7, h8⟩ := evSlice h hx
   have hi := evInt h hix
   refine done_one h fun u hu => ?_
   obtain ⟨g0, g1⟩ := lk_some (show lk xs i = some u from hu)
   have hlt : i.toNat < xs.length := by
    rcases Nat.lt_or_ge i.toNat xs.length with h9 | h9
    ·exact h9
    ·simp [List.getElem?_eq_none h9] at g1
   obtain ⟨p, h9, h10, h11⟩ := h8 (by omega)
   obtain ⟨ds, h12, h13⟩ := h11 _ _ g1
   subst h9
   have hs' : inf.size = T.size := by rw [h4]; simpa using hsz
   refine ⟨_, by rw [h5, hi]; exact indexAt_run h1 h3 g0 (by omega), RepV.of (t := .rad T 0) ⟨rfl, (p.1, p.2 + i.toNat * T.size), ds, by rw [hs']; simp, h10, h12, h13⟩⟩
  ·cases he
 ·rename_i e' r v k i hel hx hix
  split at he
  ·rename_i ob hob
   split at he
   ·rename_i hsz
    cases he
    obtain ⟨el, inf, h1, h2, h3, h4, _⟩ := elemOf_law hT hel
    obtain ⟨ri, h5, h6⟩ := evOw h hx
    have hi := evInt h hix
    obtain ⟨ri', h5', ho⟩ := h.obj r ob hob
    rw [h5] at h5'; cases h5'
    refine done_one h fun u hu => ?_
    simp only [Cnd.map, Cnd.look] at hu
    cases hk : lk ob.xs i with
    | none => simp [hk] at hu
    | some old =>
     simp only [hk, Option.map_some, Option.some.injEq] at hu
     subst hu
     obtain ⟨g0, g1⟩ := lk_some hk
     have hlt : i.toNat < ob.xs.length := by
      rcases Nat.lt_or_ge i.toNat ob.xs.length with h9 | h9
      ·exact h9
      ·simp [List.getElem?_eq_none h9] at g1
     cases hA : ri.A with
     | none => have := ho.none hA; have := ho.le; have := ho.n; omega
     | some p =>
      have hs' : inf.size = ri.sz := by rw [h4, ho.sz]; simpa using hsz
      refine ⟨_, by rw [h6, hi]; unfold RI.val; rw [ho.raw.resolve_left (by have := ho.le; have := ho.n; omega), hA]; exact indexAt_run h1 h3 g0 (by rw [ho.n]; omega), RepV.of (t := .oad r 0) ⟨rfl, ri, p, h5, hA, by rw [hs']; simp⟩⟩
   ·cases he
  ·cases he
 ·rename_i e' r v k i hel hx hix
  split at he
  ·rename_i ob hob
   split at he
   ·rename_i hsz
    cases he
    obtain ⟨el, inf, h1, h2, h3, h4, _⟩ := elemOf_law hT hel
    obtain ⟨ri, A, c, h5, h6, h7, h8, h9, h10⟩ := evOsl h hx
    obtain ⟨v1, v2⟩ : Nat × Nat := v
    simp only at h7 h8 h9 h10
    have hi := evInt h hix
    obtain ⟨ri', h5', ho⟩ := h.obj r ob hob
    rw [h5] at h5'; cases h5'
    refine done_one h fun u hu => ?_
    simp only [Cnd.map, Cnd.test] at hu
    cases hk : inR i v2 with
    | false => simp [hk] at hu
    | true =>
     simp only [hk, cond_true, Option.map_some, Option.some.injEq] at hu
     subst hu
     simp only [inR, Bool.and_eq_true, decide_eq_true_eq] at hk
     obtain ⟨g0, g1⟩ := hk
     rcases h10 with h10 | ⟨p, h10, h11⟩
     ·omega
     ·subst h11
      have hs' : inf.size = ri.sz := by rw [h4, ho.sz]; simpa using hsz
      refine ⟨_, by rw [h6, hi]; exact indexAt_run h1 h3 g0 g1, RepV.of (t := .oad r 0) ⟨rfl, ri, p, h5, h10, ?_⟩⟩
      have : (plusI v1 i).toNat = v1 + Int.toNat i := by unfold plusI; omega
      simp only [hs', this, Nat.add_mul, Nat.add_assoc, Nat.add_zero]
   ·cases he
  ·cases he
 ·rename_i e' pn v k i hel hx hix
  split at he
  ·rename_i q hq
   split at he
   ·rename_i hsz
    cases he
    obtain ⟨el, inf, h1, h2, h3, h4, _⟩ := elemOf_law hT hel
    have hi := evInt h hix
    refine done_one h fun u hu => ?_
    simp only [Cnd.look] at hu
    rcases evPsl h hx with ⟨rfl, _⟩ | ⟨j, vv, rfl, ri, h5, A, c, h6, h7, h8, h9, h10, _⟩
    ·cases hu
    ·obtain ⟨v1, v2⟩ : Nat × Nat := vv
     simp only at h7 h8 h9 h10
     simp only [Go.Vu.hix] at hu
     split at hu
     ·rename_i xs hxs
      split at hu
      ·rename_i hb
       obtain ⟨g0, g1⟩ := hb
       cases hu
       obtain ⟨ri', h5', ho⟩ := h.obj (.pl pn j) _ (obj_pl hq hxs)
       rw [h5] at h5'; cases h5'
       rcases h10 with h10 | ⟨p, h10, h11⟩
       ·omega
       ·subst h11
        have hs' : inf.size = ri.sz := by rw [h4, ho.sz]; simpa using hsz
        refine ⟨_, by rw [h6, hi]; exact indexAt_run h1 h3 g0 g1, RepV.of (t := .pdd pn 0) ⟨rfl, ri, p, h5, h10, ?_⟩⟩
        have : ((v1 : Int) + i).toNat = v1 + Int.toNat i := by omega
        simp only [hs', this, Nat.add_mul, Nat.add_assoc, Nat.add_zero]
      ·cases hu
     ·cases hu
   ·cases he
  ·cases he
 ·cases he
theorem indexArr_run {t n el : Nat} {inf : TypeInfo} (h1 : P.underlying t = some (.array n el)) (h2 : P.info? el = some inf) {k : IntKind} {i : Int} (g0 : 0 ≤ i) (g1 : i < (n : Int)) (b : Addr) :
  (Instr.indexAt t (.pointer (some b)) (.int k i)).run P w = .ok (.pointer (some (b.add (i.toNat * inf.size)))) w := by
 simp only [Instr.indexAt, asIntOf, Instr.sureAddr, Sem.run_bind, Sem.run_pure, Result.andThen_ok, run_underlying h1]
 rw [if_pos ⟨g0, g1⟩]
 simp only [Sem.run_bind, run_sizeOf h2, Result.andThen_ok, Sem.run_pure]
theorem indexAddr_law (hT : TabOk P tb) (h : RelAt F0 M W0 F ρ s a w) {t : Nat} {x ix : Operand} {e : Eff R} (he : opIndexAddr tb t x ix s = some e) :
  Done P F0 M W0 a w id e (Instr.indexAt t (a.eval x) (a.eval ix)) := by
 unfold opIndexAddr at he
 split at he
 ·rename_i n ei el ha
  unfold arrOf at ha
  split at ha
  ·rename_i i hi
   split at ha
   ·rename_i n' el' hk
    split at ha
    ·rename_i ei' hei
     cases ha
     have hu := (hT t i hi).und
     rw [hk] at hu
     obtain ⟨inf, i1, i2, _⟩ := (hT _ ei hei).info
     unfold opIndexArr at he
     split at he
     ·rename_i r o v k j hx
      split at he
      ·rename_i hc
       simp only [Bool.and_eq_true, decide_eq_true_eq] at hc
       cases he
       obtain ⟨ri, p, h1, h2, h3⟩ := evPad h hx
       have hev : a.eval (.const (.int k j)) = .int k j := rfl
       exact done_one h fun u hu' => ⟨_, by rw [h3, hev]; exact indexArr_run hu i1 hc.1 hc.2 _, by cases hu'; exact RepV.of (t := .pad r (o + j.toNat * ei.sz)) ⟨rfl, ri, p, h1, h2, by simp [adr, Addr.add, i2, Nat.add_assoc]⟩⟩
      ·cases he
     ·rename_i T o v k j hx
      split at he
      ·rename_i hc
       simp only [Bool.and_eq_true, decide_eq_true_eq] at hc
       cases he
       obtain ⟨p, ds, h1, h2⟩ := evRad h hx
       have hev : a.eval (.const (.int k j)) = .int k j := rfl
       exact done_one h fun u hu' => ⟨_, by rw [h1, hev]; exact indexArr_run hu i1 hc.1 hc.2 _, by cases hu'; exact RepV.of (t := .rad T (o + j.toNat * ei.sz)) ⟨rfl, p, ds, by simp [adr, Addr.add, i2, Nat.add_assoc], h2⟩⟩
      ·cases he
     ·cases he
    ·cases ha
   ·cases ha
  ·cases ha
 ·exact indexAddrS_law hT h he
theorem index_law (hT : TabOk P tb) (h : RelAt F0 M W0 F ρ s a w) {t : Nat} {x ix : Operand} {e : Eff R} (he : opIndex tb t x ix s = some e) :
  Done P F0 M W0 a w id e (Instr.index t (a.eval x) (a.eval ix)) := by
 unfold opIndex at he
 split at he
 ·rename_i ti xs k i hti hx hix
  split at he
  ·rename_i hk
   cases he
   have hu := (hT t ti hti).und
   rw [hk] at hu
   have hx' := evStr h hx
   have hi := evInt h hix
   refine done_one h fun u hu' => ?_
   simp only [Cnd.map, Cnd.look] at hu'
   cases hk' : lk xs i with
   | none => simp [hk'] at hu'
   | some b =>
    simp only [hk', Option.map_some, Option.some.injEq] at hu'
    subst hu'
    obtain ⟨g0, g1⟩ := lk_some hk'
    refine ⟨.int .u8 b.toNat, ?_, ⟨rfl, rfl⟩⟩
    have g1' : (⟨xs.toArray⟩ : ByteArray)[i.toNat]? = some b := by
     have hlt : i.toNat < xs.length := by
      rcases Nat.lt_or_ge i.toNat xs.length with h9 | h9
      ·exact h9
      ·simp [List.getElem?_eq_none h9] at g1
     rw [List.getElem?_eq_getElem hlt] at g1
     have : i.toNat < (⟨xs.toArray⟩ : ByteArray).size := by simpa [ByteArray.size] using hlt
     rw [getElem?_pos (⟨xs.toArray⟩ : ByteArray) i.toNat this]
     congr 1
     have := Option.some.inj g1
     simpa [ByteArray.getElem_eq_getElem_data] using this
    simp only [Instr.index, asIntOf, Sem.run_bind, hx', hi, Sem.run_pure, Result.andThen_ok, run_underlying hu, if_pos g0, g1']
  ·cases he
 ·rename_i ti T v k i0 hti hx hix
  split at he
  ·rename_i n el k' i hk
   split at he
   ·rename_i ei hei
    split at he
    ·rename_i l hl
     split at he
     ·rename_i hc
      simp only [Bool.and_eq_true, decide_eq_true_eq] at hc
      cases he
      have hu := (hT t ti hti).und
      rw [hk] at hu
      obtain ⟨cs, h6, h7⟩ := (ev_law h hx).1
      obtain ⟨s1, s2, c1, c2, c3, e1, e2, h8, _⟩ := comp_law _ _ _ _ _ hl v cs h7
      obtain ⟨val, h9, h10⟩ := part_law (hT _ ei hei) s2 s1 (comp_one _ _ _ _ _ hl) (comp_cell _ _ _ _ _ hl hc.2) (c1 := c1) (c3 := c3) h8
      obtain ⟨inf, i1, i2, _⟩ := (hT _ ei hei).info
      refine done_one h fun u hu' => ⟨val, ?_, ?_⟩
      ·have hev : a.eval (.const (.int k' i)) = .int k' i := rfl
       simp only [Instr.index, hev, asIntOf, Sem.run_bind, Sem.run_pure, Result.andThen_ok, run_underlying hu, h6]
       rw [if_pos ⟨hc.1.1, hc.1.2⟩]
       simp only [Sem.run_bind, run_sizeOf i1, Result.andThen_ok, i2]
       rw [e1, ← e2]; exact h9
      ·cases hu'; exact RepV.of h10
     ·cases he
    ·cases he
   ·cases he
  ·cases he
 ·cases he
end Go.Vu
