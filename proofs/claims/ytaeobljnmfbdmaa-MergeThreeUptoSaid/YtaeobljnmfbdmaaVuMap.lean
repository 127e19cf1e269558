/- Value semantics, part 12b: maps. -/
import Derived.Test.YtaeobljnmfbdmaaVuLaw7
import Derived.Maps.RangeRun
import Derived.Laws.NewFold
set_option linter.unusedVariables false
namespace Go.Vu
open Go
variable {P : Program} {tb : Tab} {R : Type} {F0 : Bs} {M F : Nat → Prop} {W0 w w' : World} {ρ : RK → Option RI} {s : St} {a : Act} {m : Nat → Nat → Option Value} {id : Nat}
theorem OneV.rep {t : Ty} {v : t.den} {x : Value} {ds : List Value} (h : OneV t x ds) (hr : Rep F m ρ t v ds) : RepV1 F m ρ t v x := by
 unfold OneV at h
 unfold RepV1
 split at h
 ·rw [if_pos ‹_›]; exact ⟨ds, h, hr⟩
 ·rw [if_neg ‹_›]; obtain ⟨h1, h2⟩ := h; subst h2; exact ⟨h1, hr⟩
theorem OneV.of {t : Ty} {v : t.den} {x : Value} (h : RepV1 F m ρ t v x) : ∃ ds, OneV t x ds ∧ Rep F m ρ t v ds := by
 unfold RepV1 at h
 unfold OneV
 split at h
 ·obtain ⟨cs, h1, h2⟩ := h; exact ⟨cs, by rw [if_pos ‹_›]; exact h1, h2⟩
 ·exact ⟨[x], by rw [if_neg ‹_›]; exact ⟨h.1, rfl⟩, h.2⟩
theorem setC_law (h : RelAt F0 M W0 F ρ s a w) {r : RK} {c c' : Cont} (hr : s.cont r = some c) {ri : RI} (hρ : ρ r = some ri) {k : Nat} (hk : ri.blk k) {o o' : Obj}
  (hb : w.heap[k]? = some o) (hno : ∀ cells el fr, o ≠ .cells cells el fr) {s1 s2 : St} (hd : Sets s r none s1) (hl : Sets s1 r (some c') s2)
  (hc : (∀ b, F b → ∀ j v, mem w b j = some v → mem { w with heap := w.heap.setIfInBounds k o' } b j = some v) → ({ w with heap := w.heap.setIfInBounds k o' } : World).heap[k]? = some o' →
   (∀ b, b ≠ k → ({ w with heap := w.heap.setIfInBounds k o' } : World).heap[b]? = w.heap[b]?) → CRep F { w with heap := w.heap.setIfInBounds k o' } ρ ri c') :
  RelAt F0 M W0 F ρ s2 a { w with heap := w.heap.setIfInBounds k o' } := by
 have hlt := heap_lt hb
 have hown := h.cown r _ ri k hr hρ hk
 have hold : ∀ b, b ≠ k → ({ w with heap := w.heap.setIfInBounds k o' } : World).heap[b]? = w.heap[b]? := fun b hn => by
  simp only [Array.getElem?_setIfInBounds]; rw [if_neg (Ne.symm hn)]
 have hK : Kept (fun b => b = k) w { w with heap := w.heap.setIfInBounds k o' } :=
  ⟨rfl, rfl, rfl, by simp, fun i hi hn => hold i hn, fun i c el fr hi => ⟨c, by
   have hne : i ≠ k := fun e => by subst e; rw [hb] at hi; cases hi; exact hno _ _ _ rfl
   rw [hold i hne]; exact hi, rfl⟩⟩
 have hF : ∀ b, F b → ∀ j v, mem w b j = some v → mem { w with heap := w.heap.setIfInBounds k o' } b j = some v := fun b hb j v hv => by
  rw [mem_of_block (hold b fun e => hown.1 (e ▸ hb))]; exact hv
 have back : ∀ q c', s1.cont q = some c' → q ≠ r ∧ s.cont q = some c' := fun q c' hq => by
  rw [hd.cont] at hq
  split at hq
  ·cases hq
  ·rename_i e; exact ⟨e, hq⟩
 have h5 := (h.dead hd).world _ hK (fun b hb => by
  subst hb
  refine ⟨hown.1, fun r' c ri' hr' hρ' hb' => ?_, fun hlt' => hown.2.resolve_left (by omega)⟩
  obtain ⟨g1, g2⟩ := back _ _ hr'
  exact g1 (h.csep r r' _ c ri ri' b hr g2 hρ hρ' hk hb').symm)
 refine h5.alive ri c' hl (by rw [hd.cont]; simp) hρ (hc hF (by simp [hlt]) hold) fun b hb => ?_
 obtain ⟨m1, m2⟩ := h.cown r _ ri b hr hρ hb
 refine ⟨m1, m2, fun q c' ri' hq hρ' hb' => ?_⟩
 obtain ⟨g1, g2⟩ := back _ _ hq
 exact g1 (h.csep r q _ c' ri ri' b hr g2 hρ hρ' hb hb').symm
theorem find_law {k : IntKind} {t : Ty} {n : Int} : ∀ (l : List (Int × t.den)) (es : List MapEntry) (i : Nat), EntsR F m ρ k t l es →
  (Instr.findNow (.int k) (.int k n) es i = some none ∧ mget l n = none ∧ (∀ x, mset l n x = l ++ [(n, x)])) ∨
  ∃ j e p, Instr.findNow (.int k) (.int k n) es i = some (some (i + j, e.val)) ∧ es[j]? = some e ∧ l[j]? = some p ∧ p.1 = n ∧ EntR F m ρ k t p e ∧ mget l n = some p.2 ∧ ∀ x, mset l n x = l.set j (n, x)
 | [], es, i, h => by
  cases h
  exact .inl ⟨rfl, rfl, fun x => rfl⟩
 | p :: l, es, i, ⟨e, r, h1, h2, h3⟩ => by
  subst h1
  have hk := h2.1
  have hs : Instr.sameNow (.int k) (.int k n) e.key = some (n == p.1) := by rw [hk]; simp [Instr.sameNow]
  by_cases e0 : p.1 = n
  ·refine .inr ⟨0, e, p, ?_, rfl, rfl, e0, h2, ?_, fun x => ?_⟩
   ·simp [Instr.findNow, hs, e0]
   ·simp [mget, e0]
   ·simp [mset, e0]
  ·have hs' : Instr.sameNow (.int k) (.int k n) e.key = some false := by rw [hs]; simp [Ne.symm e0]
   rcases find_law (n := n) l r (i + 1) h3 with ⟨g1, g2, g3⟩ | ⟨j, e', p', g1, g2, g3, g4, g5, g6, g7⟩
   ·refine .inl ⟨?_, ?_, fun x => ?_⟩
    ·simp only [Instr.findNow, hs', g1]
    ·simp [mget, e0, g2]
    ·simp [mset, e0, g3]
   ·refine .inr ⟨j + 1, e', p', ?_, g2, g3, g4, g5, ?_, fun x => ?_⟩
    ·simp only [Instr.findNow, hs', g1]; rw [show i + 1 + j = i + (j + 1) by omega]
    ·simp [mget, e0, g6]
    ·simp [mset, e0, g7]
theorem checkKey_run {kt : TypeId} {k : IntKind} (hk : P.underlying kt = some (.int k)) (em : Bool) (n : Int) : (Instr.checkKey em 10000 kt (.int k n)).run P w = .ok () w := by
 have key : ∀ d, (Instr.checkKey em (d + 1) kt (.int k n)).run P w = .ok () w := fun d => by
  simp only [Instr.checkKey, Sem.run_bind, run_underlying hk, Result.andThen_ok]
  rfl
 exact key 9999
theorem findKey_run {kt : TypeId} {k : IntKind} (hk : P.underlying kt = some (.int k)) {n : Int} {es : List MapEntry} {r : Option (Nat × Value)} (h : Instr.findNow (.int k) (.int k n) es 0 = some r) : (Instr.findKey kt (.int k n) es).run P w = .ok r w := by
 simp only [Instr.findKey, Sem.run_bind, run_underlying hk, Result.andThen_ok, h]
 rfl
theorem fmp_ents {k : IntKind} {t : Ty} {l : List (Int × t.den)} {cs : List Value} (h : Rep F (mem w) ρ (.fmp k t) l cs) : ∃ b es clock, cs = [.map (some b)] ∧ F b ∧ w.heap[b]? = some (.map es clock) ∧ EntsR F (mem w) ρ k t l es.toList := by
 obtain ⟨b, e, hb, ha, h0, h1⟩ := h
 have hmap : ∃ es clock, w.heap[b]? = some (.map es clock) := by
  cases hh : w.heap[b]? with
  | none => obtain ⟨x, hx⟩ := ha 0; simp [mem, World.cell?, hh] at hx
  | some o =>
   cases o with
   | map es clock => exact ⟨es, clock, rfl⟩
   | cells c el fr => obtain ⟨x, hx⟩ := ha c.size; simp [mem, World.cell?, hh] at hx
   | _ => obtain ⟨x, hx⟩ := ha 0; simp [mem, World.cell?, hh] at hx
 obtain ⟨es, clock, hm⟩ := hmap
 refine ⟨b, es, clock, e, hb, hm, ?_⟩
 have hsz : es.toList.length = l.length := by
  simp only [mem, hm, mapCell, Option.some.injEq, Value.tuple.injEq] at h0
  have h0 : Value.int .i64 es.size = Value.int .i64 (List.length l) := by
   have := congrArg (fun a : Array Value => a[0]?) h0
   simpa using this
  simp only [Value.int.injEq, Int.natCast_inj, true_and] at h0
  simpa using h0
 have hg : ∀ (i : Nat) p, l[i]? = some p → ∃ e, es.toList[i]? = some e ∧ EntR F (mem w) ρ k t p e := fun i p hi => by
  obtain ⟨x, ds, h2, h3, h4⟩ := h1 i p hi
  have hlt : i < es.toList.length := by
   rw [hsz]
   rcases Nat.lt_or_ge i l.length with g | g
   ·exact g
   ·rw [List.getElem?_eq_none g] at hi; cases hi
  refine ⟨es.toList[i], List.getElem?_eq_getElem hlt, ?_⟩
  simp only [mem, hm, mapCell, Option.some.injEq] at h2
  rw [show es[i]? = some es.toList[i] by simp [Array.getElem?_eq_getElem (by simpa using hlt : i < es.size)]] at h2
  simp only [Value.tuple.injEq] at h2
  have e1 := congrArg (fun a : Array Value => a[0]?) h2
  have e2 := congrArg (fun a : Array Value => a[1]?) h2
  simp only [List.getElem?_toArray, List.getElem?_cons_zero, List.getElem?_cons_succ, Option.some.injEq] at e1 e2
  exact ⟨e1, ds, by rw [e2]; exact h3, h4⟩
 clear h0 h1 ha hm
 generalize es.toList = ls at hsz hg
 induction l generalizing ls with
 | nil => exact List.eq_nil_of_length_eq_zero hsz
 | cons p l ih =>
  cases ls with
  | nil => simp at hsz
  | cons e ls =>
   refine ⟨e, ls, rfl, ?_, ih ls (by simpa using hsz) fun i q hi => ?_⟩
   ·obtain ⟨e', g1, g2⟩ := hg 0 p rfl
    cases g1; exact g2
   ·exact hg (i + 1) q hi
theorem ents_fmp {k : IntKind} {t : Ty} {l : List (Int × t.den)} {b : Nat} {es : Array MapEntry} {clock : Nat} (hb : w.heap[b]? = some (.map es clock)) (hF : F b) (h : EntsR F (mem w) ρ k t l es.toList) : Rep F (mem w) ρ (.fmp k t) l [.map (some b)] := by
 have hm : ∀ o, mem w b o = mapCell es o := fun o => by unfold mem; rw [hb]
 refine ⟨b, rfl, hF, fun o => ?_, ?_, fun i p hi => ?_⟩
 ·rw [hm]
  cases o with
  | zero => exact ⟨_, rfl⟩
  | succ o => exact ⟨_, rfl⟩
 ·rw [hm]
  have := h.length
  rw [← this]
  simp [mapCell]
 ·obtain ⟨e, h1, h2, ds, h3, h4⟩ := h.get i p hi
  have h1 : es[i]? = some e := by simpa using h1
  exact ⟨e.val, ds, by rw [hm]; simp only [mapCell, h1, h2], h3, h4⟩
theorem EntsR.maps {F' : Nat → Prop} {m' : Nat → Nat → Option Value} {ρ' : RK → Option RI} {k : IntKind} {t u : Ty} {f : u.den → t.den} (hs : isSt t = isSt u) : ∀ {l : List (Int × u.den)} {es : List MapEntry}, (∀ p ∈ l, ∀ ds, Rep F m ρ u p.2 ds → Rep F' m' ρ' t (f p.2) ds) → EntsR F m ρ k u l es →
  EntsR F' m' ρ' k t (l.map fun p => (p.1, f p.2)) es
 | [], _, _, h => h
 | p :: l, _, hr, ⟨e, r, h1, ⟨h2, ds, h3, h4⟩, h5⟩ => ⟨e, r, h1, ⟨h2, ds, by unfold OneV at h3 ⊢; rw [hs]; exact h3, hr p (by simp) ds h4⟩, h5.maps hs fun q hq => hr q (by simp [hq])⟩
theorem mapOf_law (hT : TabOk P tb) {t : Nat} {k : IntKind} {ei : TI} (h : mapOf tb t = some (k, ei)) : ∃ kt e, P.underlying t = some (.map kt e) ∧ P.underlying kt = some (.int k) ∧ TIOk P e ei := by
 unfold mapOf at h
 split at h
 ·rename_i i hi
  split at h
  ·rename_i k' e hk
   split at h
   ·rename_i ei' he
    cases h
    have hu := (hT t i hi).und
    rw [hk] at hu
    obtain ⟨kt, g1, g2⟩ := hu
    exact ⟨kt, e, g1, g2, hT e _ he⟩
   ·cases h
  ·cases h
 ·cases h
theorem nilT_st' (t : Ty) : isSt (nilT t) = isSt t := by cases t <;> rfl
theorem look_run (hT : TabOk P tb) {t : Nat} {k : IntKind} {ei : TI} (hm : mapOf tb t = some (k, ei)) {v : Ty} {z : v.den} (hz : coe (nilT ei.ty) (nilV ei.ty ei.zero) v = some z) (hs : isSt v = isSt ei.ty) (ha : isAny ei.ty = false)
  {b : Nat} {es : Array MapEntry} {clock : Nat} {l : List (Int × v.den)} (hb : w.heap[b]? = some (.map es clock)) (he : EntsR F (mem w) ρ k v l es.toList) (n : Int) (ok : Bool) :
  ∃ val, (Instr.lookup t (.map (some b)) (.int k n) ok).run P w = .ok val w ∧ RepV F (mem w) ρ (lookT v ok) (lookV z (mget l n) ok) val := by
 obtain ⟨kt, el, h1, h2, h3⟩ := mapOf_law hT hm
 obtain ⟨info, hi, _, _, hzr⟩ := h3.info
 obtain ⟨zv, hzv, _⟩ := hzr ha
 have hzrep := h3.nilz info zv hi hzv ha F (mem w) ρ
 have hzz : RepV1 F (mem w) ρ v z zv := by
  obtain ⟨ds, g1, g2⟩ := OneV.of hzrep
  refine OneV.rep (ds := ds) ?_ (coe_law _ _ _ _ _ hz g2)
  unfold OneV at g1 ⊢
  rw [hs, ← nilT_st']; exact g1
 have hget : (getObj b).run P w = .ok (.map es clock) w := by simp only [getObj, Sem.run, hb]
 have hzrun : (zeroValue el).run P w = .ok zv w := run_zeroValue hi hzv
 have key : ∃ x okb, (match Instr.findNow (.int k) (.int k n) es.toList 0 with | some (some p) => (some (p.2, true) : Option (Value × Bool)) | some none => some (zv, false) | none => none) = some (x, okb) ∧ RepV1 F (mem w) ρ v ((mget l n).getD z) x ∧ okb = (mget l n).isSome := by
  rcases find_law (n := n) l es.toList 0 he with ⟨g1, g2, _⟩ | ⟨j, e, p, g1, _, _, _, g5, g6, _⟩
  ·exact ⟨zv, false, by rw [g1], by rw [g2]; exact hzz, by rw [g2]; rfl⟩
  ·obtain ⟨_, ds, g7, g8⟩ := g5
   exact ⟨e.val, true, by rw [g1], by rw [g6]; exact g7.rep g8, by rw [g6]; rfl⟩
 obtain ⟨x, okb, hx, hrx, hokb⟩ := key
 refine ⟨if ok then .tuple #[x, .bool okb] else x, ?_, ?_⟩
 ·simp only [Instr.lookup, Sem.run_bind, run_underlying h1, Result.andThen_ok, hget, Sem.run_pure, checkKey_run h2]
  split at hx
  ·rename_i p hp
   cases hx
   simp only [findKey_run h2 hp, Result.andThen_ok, Sem.run_bind, Sem.run_pure]
  ·rename_i hp
   cases hx
   simp only [findKey_run h2 hp, Result.andThen_ok, Sem.run_bind, hzrun, Sem.run_pure]
  ·cases hx
 ·cases ok with
  | false => exact RepV.of hrx
  | true =>
   refine ⟨[x, .bool okb], rfl, x, [.bool okb], rfl, hrx, .bool okb, [], rfl, ?_, rfl⟩
   exact ⟨rfl, by rw [hokb]; rfl⟩
theorem evMpv (h : RelAt F0 M W0 F ρ s a w) {x : Operand} {r : Nat} {u : Unit} (hy : ev s x = some ⟨.mpv r, u⟩) : ∃ ri p, ρ r = some ri ∧ ri.A = some p ∧ a.eval x = .map (some p.1) := by
 obtain ⟨_, ri, p, h1, h2, h3⟩ := (ev_law h hy).1
 simp only [List.cons.injEq, and_true] at h3
 exact ⟨ri, p, h1, h2, h3⟩
theorem lookup_law (hT : TabOk P tb) (h : RelAt F0 M W0 F ρ s a w) {t : Nat} {x ix : Operand} {ok : Bool} {e : Eff R} (he : opLookup tb t x ix ok s = some e) :
  Done P F0 M W0 a w id e (Instr.lookup t (a.eval x) (a.eval ix) ok) := by
 unfold opLookup at he
 split at he
 ·rename_i k ei r u k' n hm hx hix
  split at he
  ·rename_i k2 v l hc
   split at he
   ·rename_i z hz
    split at he
    ·rename_i hcond
     obtain ⟨⟨rfl, rfl⟩, hs, ha⟩ := hcond
     cases he
     obtain ⟨ri, p, h1, h2, h3⟩ := evMpv h hx
     obtain ⟨ri', h1', ho⟩ := h.cobj r _ hc
     rw [h1] at h1'; cases h1'
     have ho : MRep F w ρ ri _ v l := ho
     obtain ⟨b, es, clock, g1, g2, g3, _⟩ := ho.ex
     rw [h2] at g1; cases g1
     obtain ⟨val, q1, q2⟩ := look_run hT hm hz hs ha g2 g3 n ok
     rw [h3, evInt h hix]
     exact done_ret h q1 q2
    ·cases he
   ·cases he
  ·cases he
 ·rename_i k ei k2 v l k' n hm hx hix
  split at he
  ·rename_i z hz
   split at he
   ·rename_i hcond
    obtain ⟨⟨rfl, rfl⟩, hs, ha⟩ := hcond
    cases he
    obtain ⟨_, hr⟩ := (ev_law h hx).1
    obtain ⟨b, es, clock, g0, g1, g2, g3⟩ := fmp_ents hr
    simp only [List.cons.injEq, and_true] at g0
    obtain ⟨val, q1, q2⟩ := look_run hT hm hz hs ha g2 g3 n ok
    rw [g0, evInt h hix]
    exact done_ret h q1 q2
   ·cases he
  ·cases he
 ·cases he
theorem makeMap_law (hT : TabOk P tb) (h : RelAt F0 M W0 F ρ s a w) (hf : ol s.objs id = none) {t : Nat} {e : Eff R} (he : opMakeMap tb t id s = some e) :
  Done P F0 M W0 a w id e (Instr.makeMap t none) := by
 unfold opMakeMap at he
 split at he
 ·rename_i k ei hm
  split at he
  ·rename_i hh
   cases he
   intro v hv
   cases hv
   refine ⟨.map (some w.heap.size), w.alloc (.map #[] 0), F, ext ρ id ⟨some (w.heap.size, 0), none, 1, 1, 1, []⟩, rfl, fun d => ?_⟩
   exact RelAt.put (newC_law (o := .map #[] 0) (c := .mp k (mapTy s ei.ty) []) h hf (fun b hb => by
    obtain ⟨p, hp, rfl⟩ := blk_nosub rfl hb
    cases hp; rfl) ⟨⟨rfl, rfl⟩, hh, w.heap.size, #[], 0, rfl, by show (w.heap.push _)[w.heap.size]? = _; simp, rfl, by simp, by simp⟩) d ⟨.mpv id, ()⟩ _ (RepV.of (t := .mpv id) ⟨rfl, _, (w.heap.size, 0), ext_same, rfl, rfl⟩)
  ·cases he
 ·cases he
theorem EntsR.snoc {k : IntKind} {t : Ty} {p : Int × t.den} {e : MapEntry} (hp : EntR F m ρ k t p e) : ∀ {l : List (Int × t.den)} {es : List MapEntry}, EntsR F m ρ k t l es → EntsR F m ρ k t (l ++ [p]) (es ++ [e])
 | [], _, h => by cases h; exact ⟨e, [], rfl, hp, rfl⟩
 | _ :: _, _, ⟨e1, r, h1, h2, h3⟩ => by subst h1; exact ⟨e1, r ++ [e], rfl, h2, h3.snoc hp⟩
theorem EntsR.set {k : IntKind} {t : Ty} {p : Int × t.den} {e : MapEntry} (hp : EntR F m ρ k t p e) : ∀ {l : List (Int × t.den)} {es : List MapEntry} (j : Nat), EntsR F m ρ k t l es → EntsR F m ρ k t (l.set j p) (es.set j e)
 | [], _, j, h => by cases h; exact rfl
 | q :: l, _, 0, ⟨e1, r, h1, h2, h3⟩ => by subst h1; exact ⟨e, r, rfl, hp, h3⟩
 | q :: l, _, j + 1, ⟨e1, r, h1, h2, h3⟩ => by subst h1; exact ⟨e1, r.set j e, rfl, h2, h3.set hp j⟩
theorem EntsR.split {k : IntKind} {t : Ty} {e : MapEntry} {s2 : List MapEntry} : ∀ {l : List (Int × t.den)} {s1 : List MapEntry}, EntsR F m ρ k t l (s1 ++ e :: s2) → ∃ l1 p l2, l = l1 ++ p :: l2 ∧ EntR F m ρ k t p e ∧ EntsR F m ρ k t (l1 ++ l2) (s1 ++ s2)
 | [], s1, h => by
  have h : s1 ++ e :: s2 = [] := h
  simp at h
 | q :: l, [], ⟨e1, r, h1, h2, h3⟩ => by
  simp only [List.nil_append, List.cons.injEq] at h1
  obtain ⟨rfl, rfl⟩ := h1
  exact ⟨[], q, l, rfl, h2, h3⟩
 | q :: l, x :: s1, ⟨e1, r, h1, h2, h3⟩ => by
  simp only [List.cons_append, List.cons.injEq] at h1
  obtain ⟨rfl, rfl⟩ := h1
  obtain ⟨l1, p, l2, g1, g2, g3⟩ := EntsR.split (s2 := s2) h3
  subst g1
  exact ⟨q :: l1, p, l2, rfl, g2, x, s1 ++ s2, rfl, h2, g3⟩
theorem sameBits_int (k : IntKind) (n : Int) : ∀ d, Instr.sameBits d (.int k n) (.int k n) = true := fun d => by cases d <;> simp [Instr.sameBits]
theorem stays_run (k : IntKind) (n : Int) : (Instr.keyThatStays (.int k n) (.int k n)).run P w = .ok (.int k n) w := by
 simp only [Instr.keyThatStays, sameBits_int, if_true, Sem.run_pure]
theorem mapUpdate_law (hT : TabOk P tb) (h : RelAt F0 M W0 F ρ s a w) {t : Nat} {x ix yo : Operand} {e : Eff R} (he : opMapUpdate tb t x ix yo s = some e) :
  DoneU P F0 M W0 a w id e (Instr.mapUpdate t (a.eval x) (a.eval ix) (a.eval yo)) := by
 unfold opMapUpdate at he
 split at he
 ·rename_i k ei r u k' n y hm hx hix hy
  split at he
  ·cases he
  split at he
  ·rename_i y' s' hh
   split at he
   ·rename_i k2 v l hc
    split at he
    ·rename_i z hz
     split at he
     ·rename_i hcond
      obtain ⟨⟨rfl, rfl⟩, hs⟩ := hcond
      cases he
      intro u hu
      cases hu
      obtain ⟨F', ρ', hF, hρ, h', hp, hr⟩ := toHold_law h hh (ev_law h hy).1
      obtain ⟨ri, p, h1, h2, h3⟩ := evMpv h hx
      obtain ⟨ri', h1', ho⟩ := h'.cobj r _ hc
      have h1 := hρ _ _ h1
      rw [h1] at h1'; cases h1'
      have ho : MRep F' w ρ' ri _ v l := ho
      obtain ⟨b, es, clock, g1, g2, g3, g4, g5⟩ := ho.ex
      rw [h2] at g1; cases g1
      obtain ⟨kt, el, q1, q2, _⟩ := mapOf_law hT hm
      obtain ⟨ds, o1, o2⟩ := OneV.of hr
      have o2 := coe_law _ _ _ _ _ hz o2
      have o1 : OneV v (a.eval yo) ds := by unfold OneV at o1 ⊢; rw [hs]; exact o1
      have hget : (getObj b).run P w = .ok (.map es clock) w := by simp only [getObj, Sem.run, g2]
      have hset : ∀ o, (setObj b o).run P w = .ok () { w with heap := w.heap.setIfInBounds b o } := fun o => by simp only [setObj, Sem.run, g2]
      have fin : ∀ (es' : Array MapEntry) (clock' : Nat), EntsR F' (mem w) ρ' k2 v (mset l n z) es'.toList → (∀ e ∈ es'.toList, e.born < clock') → (es'.toList.map (·.born)).Nodup →
        RelAt F0 M W0 F' ρ' ((s'.setObj r .dead).setObj r (.live (.mp k2 v (mset l n z)))) a { w with heap := w.heap.setIfInBounds b (.map es' clock') } := fun es' clock' e1 e2 e3 =>
       setC_law (o' := .map es' clock') h' hc h1 (RI.blkA h2) g2 (fun _ _ _ e => by cases e) sets_dead sets_live fun hFm hb _ =>
        ⟨ho.bare, ho.hold, b, es', clock', h2, hb, e1.mono fun v cs => Rep.mono (fun _ h => h) hFm (fun _ _ h => h) _ v cs, e2, e3⟩
      rcases find_law (n := n) l es.toList 0 g3 with ⟨f1, f2, f3⟩ | ⟨j, e, p, f1, f2, f3, f4, f5, f6, f7⟩
      ·refine ⟨_, F', ρ', ?_, fun d => RelAt.put (fin (es.push ⟨.int k2 n, a.eval yo, clock⟩) (clock + 1) ?_ ?_ ?_) d ⟨.any, ()⟩ _ trivial⟩
       ·simp only [Instr.mapUpdate, Sem.run_bind, run_underlying q1, Result.andThen_ok, h3, hget, evInt h hix, checkKey_run q2, findKey_run q2 f1, hset]
       ·rw [f3, Array.toList_push]
        exact g3.snoc ⟨rfl, ds, o1, o2⟩
       ·intro e he
        rw [Array.toList_push] at he
        rcases List.mem_append.1 he with he | he
        ·exact Nat.lt_succ_of_lt (g4 e he)
        ·simp only [List.mem_singleton] at he; subst he; exact Nat.lt_succ_self _
       ·rw [Array.toList_push, List.map_append, List.nodup_append]
        refine ⟨g5, by simp, fun x hx y hy => ?_⟩
        simp only [List.map_cons, List.map_nil, List.mem_singleton] at hy
        obtain ⟨e, he, rfl⟩ := List.mem_map.1 hx
        have := g4 e he
        omega
      ·have hj : es[j]? = some e := by simpa using f2
       have hjl : j < es.size := (Array.getElem?_eq_some_iff.1 hj).1
       have hmod : (es.modify j fun e => { e with key := Value.int k2 n, val := a.eval yo }).toList = es.toList.set j { e with key := .int k2 n, val := a.eval yo } := by
        apply List.ext_getElem?
        intro i
        rw [Array.getElem?_toList, Array.getElem?_modify, List.getElem?_set]
        by_cases e0 : j = i
        ·subst e0
         have he : es[j] = e := Option.some.inj ((Array.getElem?_eq_getElem hjl).symm.trans hj)
         simp [hjl, he]
        ·simp [e0]
       refine ⟨_, F', ρ', ?_, fun d => RelAt.put (fin (es.modify j fun e => { e with key := .int k2 n, val := a.eval yo }) clock ?_ ?_ ?_) d ⟨.any, ()⟩ _ trivial⟩
       ·simp only [Instr.mapUpdate, Sem.run_bind, run_underlying q1, Result.andThen_ok, h3, hget, evInt h hix, checkKey_run q2, findKey_run q2 f1, Nat.zero_add, hj, Option.map_some, Option.getD_some, f5.1, f4, stays_run, hset]
       ·rw [hmod, f7]
        exact g3.set ⟨rfl, ds, o1, o2⟩ j
       ·intro x hx
        rw [hmod] at hx
        rcases List.mem_or_eq_of_mem_set hx with hx | rfl
        ·exact g4 x hx
        ·exact g4 e (List.mem_of_getElem? f2)
       ·rw [hmod, List.map_set]
        have : (es.toList.map (·.born)).set j e.born = es.toList.map (·.born) := by
         apply List.ext_getElem?
         intro i
         rw [List.getElem?_set]
         by_cases e0 : j = i
         ·subst e0; rw [if_pos rfl, List.getElem?_map, f2]; simp [hjl]
         ·rw [if_neg e0]
        show ((es.toList.map (·.born)).set j e.born).Nodup
        rw [this]; exact g5
     ·cases he
    ·cases he
   ·cases he
  ·cases he
 ·cases he
theorem rangeMap_law (h : RelAt F0 M W0 F ρ s a w) (hf : ol s.objs id = none) {t : Nat} {kt et : TypeId} (hu : P.underlying t = some (.map kt et)) {x : Operand} {r : Nat} {u : Unit} (hx : ev s x = some ⟨.mpv r, u⟩) {k : IntKind} {v : Ty} {l : List (Int × v.den)} (hc : s.cont r = some (.mp k v l)) :
  Done P F0 M W0 a w id (⟨.pad id 0, some (.cl (.mit k v)), none, 0, s.setObj r .dead, false, .ret ((), (l, none), ())⟩ : Eff R) (Instr.range t (a.eval x)) := by
 intro v' hv
 cases hv
 obtain ⟨ri, p, h1, h2, h3⟩ := evMpv h hx
 obtain ⟨ri', h1', ho⟩ := h.cobj r _ hc
 rw [h1] at h1'; cases h1'
 have ho : MRep F w ρ ri k v l := ho
 obtain ⟨b, es, clock, g1, g2, g3, g4, g5⟩ := ho.ex
 rw [h2] at g1; cases g1
 have hget : (getObj b).run P w = .ok (.map es clock) w := by simp only [getObj, Sem.run, g2]
 have hown := h.cown r _ ri b hc h1 (RI.blkA h2)
 have hlt := heap_lt g2
 have hf' : ol (s.setObj r .dead).objs id = none := by
  rw [ol_setObj]
  split
  ·rename_i e; subst e
   rw [St.cont_iff] at hc; rw [hc] at hf; cases hf
  ·exact hf
 have hne : id ≠ r := fun e => by subst e; rw [St.cont_iff] at hc; rw [hc] at hf; cases hf
 have hk : Kept (fun _ => False) w (w.alloc (.mapIter (some b) clock #[] clock)) := Kept.alloc _ w _
 have h5 := ((h.kill r).grow hk).ext id ⟨some (w.heap.size, 0), none, 1, 1, 1, [b]⟩ hf'
 have hle := ext_le (ri := (⟨some (w.heap.size, 0), none, 1, 1, 1, [b]⟩ : RI)) (h.fresh id hf)
 have hFm : ∀ c, F c → ∀ j v, mem w c j = some v → mem (w.alloc (.mapIter (some b) clock #[] clock)) c j = some v := fun c hcF j v hv => by
  rw [mem_of_block (hk.block c (h.lt c hcF) (fun h => h))]; exact hv
 refine ⟨.pointer (some (adr (w.heap.size, 0))), w.alloc (.mapIter (some b) clock #[] clock), F, ext ρ id ⟨some (w.heap.size, 0), none, 1, 1, 1, [b]⟩, ?_, fun d => ?_⟩
 ·simp only [Instr.range, Sem.run_bind, run_underlying hu, Result.andThen_ok, h3, hget, Sem.run_pure, run_newObj_alloc]
  rfl
 ·have h6 := h5.live id ⟨some (w.heap.size, 0), none, 1, 1, 1, [b]⟩ (.mit k v l none) (by rw [St.cont_setObj_same]; rfl) ext_same
   ⟨rfl, ho.hold, w.heap.size, b, es, clock, #[], es.toList, rfl, rfl, by omega, by show (w.heap.push _)[w.heap.size]? = _; simp, by
    show (w.heap.push _)[b]? = _
    rw [Array.getElem?_push, if_neg (by omega)]; exact g2, ⟨g4, g5⟩, by rw [List.filter_eq_self.2 (fun e _ => by simp)], g3.mono fun v cs => Rep.mono (fun _ h => h) hFm hle _ v cs, fun p hp => by cases hp⟩
   (fun c hb => by
    have back : ∀ q c', ((s.setObj r .dead).setObj id .dead).cont q = some c' → q ≠ r ∧ q ≠ id ∧ s.cont q = some c' := fun q c' hq => by
     rw [St.cont_setObj] at hq
     split at hq
     ·cases hq
     ·rename_i e1
      rw [St.cont_setObj] at hq
      split at hq
      ·cases hq
      ·rename_i e2
       exact ⟨Ne.symm e2, Ne.symm e1, hq⟩
    rcases hb with ⟨p', hp', rfl⟩ | hb
    ·cases hp'
     refine ⟨fun hF => absurd (h.lt _ hF) (Nat.lt_irrefl _), .inl h.kept.size, fun q c' ri' hq hρ' hb' => ?_⟩
     obtain ⟨n1, n2, n3⟩ := back q c' hq
     rw [ext_ne n2] at hρ'
     obtain ⟨ri2, m1, m2⟩ := h.cobj q c' n3
     rw [hρ'] at m1; cases m1
     exact absurd (m2.blkLt hb') (Nat.lt_irrefl _)
    ·simp only [List.mem_singleton] at hb
     subst hb
     refine ⟨hown.1, hown.2, fun q c' ri' hq hρ' hb' => ?_⟩
     obtain ⟨n1, n2, n3⟩ := back q c' hq
     rw [ext_ne n2] at hρ'
     exact n1 (h.csep q r c' _ ri' ri c n3 hc hρ' h1 hb' (RI.blkA h2)))
  rw [set_set] at h6
  exact RelAt.put h6 d ⟨.pad id 0, ()⟩ _ (RepV.of (t := .pad id 0) ⟨rfl, _, (w.heap.size, 0), ext_same, rfl, rfl⟩)
theorem entry_law (h : RelAt F0 M W0 F ρ s a w) {x : Operand} {e : Eff R} (he : opEntry x s = some e) : Done P F0 M W0 a w id e (Instr.entry (a.eval x)) := by
 unfold opEntry at he
 split at he
 ·rename_i r u hx
  split at he
  ·rename_i k v l c hc
   cases he
   refine done_one h fun u hu => ?_
   cases c with
   | none => cases hu
   | some p =>
    cases hu
    obtain ⟨ri, p', h1, h2, h3⟩ := evPad h hx
    obtain ⟨ri', h1', ho⟩ := h.cobj r _ hc
    rw [h1] at h1'; cases h1'
    have ho : IRep F w ρ ri k v l (some p) := ho
    obtain ⟨bi, bm, es, clock, seen, les, g1, g2, g3, g4, g5, ⟨g6, g7⟩, g8, g9, g10⟩ := ho.ex
    rw [h2] at g1; cases g1
    obtain ⟨e, q1, q2, q3, ds, q4, q5⟩ := g10 p rfl
    have hf : es.find? (·.born == e.born) = some e := by rw [← Array.find?_toList]; exact find_born e es.toList g7 q1
    refine ⟨.tuple #[e.key, e.val], ?_, ?_⟩
    ·have hp0 : a.eval x = .pointer (some ⟨bi, 0, none⟩) := h3
     simp only [Instr.entry, hp0, getObj, Sem.run_bind, Sem.run, g4, g5, Result.andThen, q2, bne_self_eq_false, Bool.false_eq_true, if_false, hf]
     rfl
    ·exact ⟨_, rfl, _, _, rfl, by rw [q3]; exact ⟨rfl, rfl⟩, _, _, rfl, q4.rep q5, rfl⟩
  ·cases he
 ·cases he
theorem next_step (h : RelAt F0 M W0 F ρ s a w) {x : Operand} {r : Nat} {u : Unit} (hx : ev s x = some ⟨.pad r 0, u⟩) {k : IntKind} {v : Ty} {l : List (Int × v.den)} {c : Option (Int × v.den)} (hc : s.cont r = some (.mit k v l c)) (ty : TypeId) :
  ∃ l' : List (Int × v.den), l.Perm l' ∧ ∃ val w', (Instr.next (a.eval x) false ty).run P w = .ok val w' ∧ RelAt F0 M W0 F ρ ((s.setObj r .dead).setObj r (.live (.mit k v l'.tail l'.head?))) a w' ∧ RepV F (mem w') ρ (.tup (.nxt (.int k) v)) l'.head? val := by
 obtain ⟨ri, p', h1, h2, h3⟩ := evPad h hx
 obtain ⟨ri', h1', ho⟩ := h.cobj r _ hc
 rw [h1] at h1'; cases h1'
 have ho : IRep F w ρ ri k v l c := ho
 obtain ⟨bi, bm, es, clock, seen, les, g1, g2, g3, g4, g5, ⟨g6, g7⟩, g8, g9, g10⟩ := ho.ex
 rw [h2] at g1; cases g1
 have hp0 : a.eval x = .pointer (some ⟨bi, 0, none⟩) := h3
 have hleft : (leftOf es seen).toList = es.toList.filter fun e => !seen.contains e.born := by simp [leftOf]
 rw [hp0]
 rcases run_next_at (P := P) w ty bi bm clock clock seen es clock g4 g5 g6 (Nat.le_refl _) with ⟨n1, n2⟩ | ⟨e, n1, w1, n2, n3⟩
 ·have hl0 : les = [] := by
   have : (es.toList.filter fun e => !seen.contains e.born) = [] := by rw [← hleft]; exact List.eq_nil_of_length_eq_zero (by simpa using n1)
   rw [this] at g8; exact g8.eq_nil
  have hl1 : l = [] := by
   have := g9.length
   rw [hl0] at this
   exact List.eq_nil_of_length_eq_zero this.symm
  subst hl1
  refine ⟨[], List.Perm.refl _, _, w, n2, ?_, ⟨_, rfl, rfl⟩⟩
  exact (h.dead sets_dead).alive ri (.mit k v [] none) sets_live (by rw [St.cont_setObj_same]; rfl) h1 ⟨ho.one, ho.hold, bi, bm, es, clock, seen, les, h2, g2, g3, g4, g5, ⟨g6, g7⟩, g8, g9, fun p hp => by cases hp⟩ fun b hb => by
   obtain ⟨m1, m2⟩ := h.cown r _ ri b hc h1 hb
   refine ⟨m1, m2, fun q c' ri' hq hρ' hb' => ?_⟩
   rw [St.cont_setObj] at hq
   split at hq
   ·cases hq
   ·rename_i hne
    exact hne (h.csep r q _ c' ri ri' b hc hq h1 hρ' hb hb')
 ·have hmem : e ∈ les := g8.mem_iff.2 (by rw [← hleft]; exact n1)
  have hmes : e ∈ es.toList := (List.mem_filter.1 (g8.mem_iff.1 hmem)).1
  obtain ⟨s1, s2, hs⟩ := List.append_of_mem hmem
  rw [hs] at g9
  obtain ⟨l1, p, l2, k1, k2, k3⟩ := g9.split
  have hperm : l.Perm (p :: (l1 ++ l2)) := by rw [k1]; exact List.perm_middle
  have hnd : (les.map (·.born)).Nodup := ((g8.map _).nodup_iff).2 (g7.sublist (List.filter_sublist.map _))
  have hrest : (s1 ++ s2).Perm (es.toList.filter fun x => !(seen.push e.born).contains x.born) := by
   have e1 : (es.toList.filter fun x => !(seen.push e.born).contains x.born) = (es.toList.filter fun x => !seen.contains x.born).filter fun x => !(x.born == e.born) := by
    rw [List.filter_filter]
    apply List.filter_congr
    intro x _
    simp only [Array.contains_push, Bool.not_or]
    rw [Bool.and_comm]
   have e2 : les.filter (fun x => !(x.born == e.born)) = s1 ++ s2 := by
    rw [hs] at hnd ⊢
    rw [List.map_append, List.map_cons] at hnd
    have hnd' := List.nodup_append.1 hnd
    have a1 : ∀ x ∈ s1, (!(x.born == e.born)) = true := fun x hx => by
     have := hnd'.2.2 x.born (List.mem_map.2 ⟨x, hx, rfl⟩) e.born (by simp)
     simpa using this
    have a2 : ∀ x ∈ s2, (!(x.born == e.born)) = true := fun x hx => by
     have := (List.nodup_cons.1 hnd'.2.1).1
     have hne : x.born ≠ e.born := fun he => this (List.mem_map.2 ⟨x, hx, he⟩)
     simpa using hne
    rw [List.filter_append, List.filter_eq_self.2 a1, List.filter_cons, if_neg (by simp), List.filter_eq_self.2 a2]
   rw [e1, ← e2]
   exact g8.filter _
  have hw1 : RelAt F0 M W0 F ρ s a w1 := by
   rcases n2 with rfl | rfl
   ·exact h
   ·exact h.grow (Kept.drew _ w _)
  have hh1 : w1.heap = w.heap := by rcases n2 with rfl | rfl <;> rfl
  have hm1 : mem w1 = mem w := by
   funext b o; exact mem_of_block (by rw [hh1]) o
  refine ⟨p :: (l1 ++ l2), hperm, _, _, n3, ?_, ?_⟩
  ·refine setC_law (o := .mapIter (some bm) clock seen clock) (o' := .mapIter (some bm) clock (seen.push e.born) clock) hw1 hc h1 (RI.blkA h2) (by rw [hh1]; exact g4) (fun _ _ _ e => by cases e) sets_dead sets_live fun hFm hb hold => ?_
   have hr : ∀ v' cs, Rep F (mem w) ρ v v' cs → Rep F (mem { w1 with heap := w1.heap.setIfInBounds bi (.mapIter (some bm) clock (seen.push e.born) clock) }) ρ v v' cs := fun v' cs hv => by
    rw [← hm1] at hv
    exact Rep.mono (fun _ h => h) hFm (fun _ _ h => h) _ v' cs hv
   refine ⟨ho.one, ho.hold, bi, bm, es, clock, seen.push e.born, s1 ++ s2, h2, g2, g3, hb, by rw [hold bm (Ne.symm g3), hh1]; exact g5, ⟨g6, g7⟩, hrest, k3.mono hr, fun q hq => ?_⟩
   cases hq
   exact ⟨e, hmes, by simp, k2.mono hr⟩
  ·obtain ⟨q3, ds, q4, q5⟩ := k2
   refine ⟨_, rfl, e.key, e.val, rfl, by rw [q3]; exact ⟨rfl, rfl⟩, ?_⟩
   have hb : ∀ b, F b → ∀ j v, mem w b j = some v → mem (ChangeMaps.setBlock w1 bi (.mapIter (some bm) clock (seen.push e.born) clock)) b j = some v := fun b hbF j v hv => by
    have hne : b ≠ bi := fun e0 => (h.cown r _ ri bi hc h1 (RI.blkA h2)).1 (e0 ▸ hbF)
    rw [mem_of_block (w := w)]
    ·exact hv
    ·show (w1.heap.setIfInBounds bi _)[b]? = _
     rw [Array.getElem?_setIfInBounds, if_neg (Ne.symm hne), hh1]
   exact q4.rep (Rep.mono (fun _ h => h) hb (fun _ _ h => h) _ _ _ q5)
end Go.Vu
