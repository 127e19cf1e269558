/- Value semantics, part 19b: what a call does to the state. -/
import Derived.Test.YtaeobljnmfbdmaaVuLaw13a
set_option linter.unusedVariables false
namespace Go.Vu
open Go
variable {P : Program} {tb : Tab} {R : Type} {F0 : Bs} {M F F' : Nat → Prop} {W0 w w' : World} {ρ ρ' ρp : RK → Option RI} {s : St} {a : Act} {m : Nat → Nat → Option Value} {id : Nat}
theorem setNK_new {T : Ty} {v : T.den} {k : Nat} : setNK s k (k + 1) (.cl T) v = putAll s k (opnC T v k) := by
 cases T <;> rfl
theorem mem_idsFrom : ∀ {n k q : Nat}, q ∈ idsFrom k n ↔ k ≤ q ∧ q < k + n
 | 0, k, q => by simp only [idsFrom, List.not_mem_nil, false_iff]; omega
 | n + 1, k, q => by simp only [idsFrom, List.mem_cons, mem_idsFrom (n := n)]; omega
structure CallS (Γ : Nat → List Ctr) (f : Nat) (xs : List TV) (id : Nat) (s : St) (e : Eff R) (c : Ctr) (v : PDen c.ps) (al : List RQ) (mo : List MO) (ok : Bool) (up : MUp (mutTy c.ps)) (base : St) : Prop where
 mem : c ∈ Γ f
 args : argsD s c.ps xs = some (v, al, mo, ok)
 dup : noDup (moRegs mo) = true
 dup2 : noDup (moPls mo) = true
 dis : ∀ Q ∈ al, Q.off mo = true
 own : nOwn c.rs ≤ 1
 mt : nMut c.ps ≤ 1
 few : nkCnt (ownTy c.rs) ≤ 16
 pls : plsOk s (rPls c.rs) = true
 alone : rPls c.rs = [] ∨ mutTy c.ps = none
 hup : (mutTy c.ps).isSome = true → mutUp s c.ps xs = some up
 hup0 : mutTy c.ps = none → up.ut = none
 hbase : (if c.rs.all RM.flat && c.ps.all PM.mutFlat then some (kills s mo) else frzs (kills s mo) al) = some base
 eff : e = ⟨resT id c.rs, ownTy c.rs, up.ut, up.ur, base, mo.isEmpty && ((rPls c.rs).isEmpty && (al.isEmpty || (c.rs.all RM.flat && c.ps.all PM.mutFlat))), (Cnd.test ok).bind fun _ => (Cnd.look (c.g v)).map fun r => (resV (bsOf base (rPls c.rs)) id c.rs r.2, ownV c.rs r.2, up.f r.1)⟩
theorem opCall_some {Γ : Nat → List Ctr} {f : Nat} {xs : List TV} {e : Eff R} (he : opCall Γ f xs id s = some e) : ∃ c v al mo ok up base, CallS Γ f xs id s e c v al mo ok up base := by
 have key : ∀ l : List Ctr, (∀ c ∈ l, c ∈ Γ f) → opCall.go xs id s l = some e → ∃ c v al mo ok up base, CallS Γ f xs id s e c v al mo ok up base := by
  intro l
  induction l with
  | nil => intro _ h; simp [opCall.go] at h
  | cons c l ih =>
   intro hm h
   simp only [opCall.go] at h
   cases ha : argsD s c.ps xs with
   | none => simp only [ha] at h; exact ih (fun c hc => hm c (by simp [hc])) h
   | some q =>
    obtain ⟨v, al, mo, ok⟩ := q
    simp only [ha] at h
    split at h
    ·rename_i hc
     simp only [Bool.and_eq_true, decide_eq_true_eq, List.all_eq_true, Bool.or_eq_true, List.isEmpty_iff, Option.isNone_iff_eq_none] at hc
     obtain ⟨⟨⟨⟨⟨⟨⟨⟨h1, h2⟩, h3⟩, h4⟩, h5⟩, h6⟩, h7⟩, h8⟩, h9⟩ := hc
     split at h
     ·rename_i up base hu hb
      cases h
      refine ⟨c, v, al, mo, ok, up, base, hm c (by simp), ha, h1, h2, h3, h4, h5, h6, h8, h9, fun hs => by rw [if_pos hs] at hu; exact hu, fun hn => ?_, hb, rfl⟩
      rw [if_neg (by rw [hn]; simp)] at hu
      cases hu
      rfl
     ·cases h
    ·cases h
 exact key _ (fun c hc => hc) he
theorem mutFlat_of : ∀ (ps : List PM) (T : Ty), ps.all PM.mutFlat = true → mutTy ps = some (.cl T) → T.flatT = true
 | [], t, _, h => by simp [mutTy] at h
 | .mu u :: ps, t, hf, h => by
  simp only [List.all_cons, Bool.and_eq_true, PM.mutFlat] at hf
  simp only [mutTy, Option.some.injEq, NK.cl.injEq] at h
  subst h; exact hf.1
 | .ro u :: ps, t, hf, h => by simp only [List.all_cons, Bool.and_eq_true] at hf; exact mutFlat_of ps t hf.2 (by simpa [mutTy] using h)
 | .own u :: ps, t, hf, h => by simp only [List.all_cons, Bool.and_eq_true] at hf; exact mutFlat_of ps t hf.2 (by simpa [mutTy] using h)
 | .ownp qs u :: ps, t, hf, h => by simp only [List.all_cons, Bool.and_eq_true] at hf; exact mutFlat_of ps t hf.2 (by simpa [mutTy] using h)
theorem mutRI_mem : ∀ (ps : List PM) (ris : List RI) (ri : RI), mutRI ps ris = some ri → ri ∈ ris
 | [], _, _, h => by simp [mutRI] at h
 | .ro _ :: ps, ris, ri, h => mutRI_mem ps ris ri (by simpa [mutRI] using h)
 | .mu _ :: ps, ris, ri, h => by
  simp only [mutRI] at h
  exact List.mem_of_mem_head? h
 | .own t :: ps, ris, ri, h => List.mem_of_mem_drop (mutRI_mem ps _ ri (by simpa [mutRI] using h))
 | .ownp qs t :: ps, ris, ri, h => List.mem_of_mem_drop (mutRI_mem ps _ ri (by simpa [mutRI] using h))
theorem root_law (h : RelAt F0 M W0 F ρ s a w) {ur fr : Nat} {T : Ty} {v : T.den} {r : RI} {mrs : List RI} (hT : (∃ t, T = .vec t) ∨ ∃ t, T = .bx t) (hρ : ρ ur = some r) (hd : s.cont ur = none)
  (hr : TRep F w (plR ρ) T v [rootVal T r] (r :: mrs)) (hf : ∀ q ∈ updIds fr (some (.cl T)), ol s.objs q = none) (hap : Apart (r :: mrs))
  (hb : ∀ b, Blk (r :: mrs) b → ¬ F b ∧ (W0.heap.size ≤ b ∨ M b) ∧ ∀ q c ri, s.cont q = some c → ρ q = some ri → ¬ ri.blk b) :
  ∃ ρ', (∀ q x, ρ q = some x → ρ' q = some x) ∧ RelAt F0 M W0 F ρ' (setNK s ur fr (.cl T) v) a w := by
 rcases hT with ⟨t, rfl⟩ | ⟨t, rfl⟩
 ·obtain ⟨ri, e1, e2, ho⟩ := hr
  cases e1
  exact ⟨ρ, fun _ _ h => h, h.live ur r (.arr ⟨t, v⟩) hd hρ (ORep.hold0 (ρ := plR ρ) (ρ' := ρ) (fun _ _ _ h => h) ho) fun b hb' => hb b ⟨r, by simp, hb'⟩⟩
 ·obtain ⟨ri, rs, p, ds, cells, el, e1, e2, hA, hsub, hh, hsz, hc, hr⟩ := hr
  cases e1
  have hρ' : ∀ (j : Nat) ri, mrs[j]? = some ri → extN ρ fr mrs (fr + j) = some ri := fun j ri hj => extN_at hj
  have ho := opn_law (ρ := extN ρ fr mrs) (ρp := plR ρ) (fun _ _ _ h => h) t v ds mrs fr hr hρ'
  have hfr : ∀ j, j < mrs.length → ol s.objs (fr + j) = none := fun j hj => hf _ (by
   show fr + j ∈ idsFrom fr (cnt t)
   rw [mem_idsFrom, ← ho.len]; omega)
  have h2 := adds_law h (k := fr) (cs := opnC t v fr) (ris := mrs) (by rw [opnC_length, ho.len]) hfr hap.2 (fun b hb' => hb b (by obtain ⟨ri, h1, h2⟩ := hb'; exact ⟨ri, by simp [h1], h2⟩)) ho.conts
  have hne : ¬ (fr ≤ ur ∧ ur < fr + mrs.length) := fun hc' => by
   have := h.fresh ur (by rw [show ur = fr + (ur - fr) by omega]; exact hfr _ (by omega))
   rw [hρ] at this; cases this
  have hlen : (opnC t v fr).length = mrs.length := by rw [opnC_length, ho.len]
  have hρu : extN ρ fr mrs ur = some r := by rw [extN_out hne]; exact hρ
  have h3 := h2.live ur r (.box ⟨opnT t fr, opnV t v fr⟩) (by rw [cont_putAll, if_neg (by rw [hlen]; exact hne)]; exact hd) hρu
   ⟨hsub, (opnT_facts t fr).2.2 ho.tree, p, ds, cells, el, hA, hh, by rw [(opnT_facts t fr).2.1]; exact hsz, hc, ho.rep⟩ (fun b hb' => by
    obtain ⟨g1, g2, g3⟩ := hb b ⟨r, by simp, hb'⟩
    refine ⟨g1, g2, fun q c ri hq h4 => ?_⟩
    cases q with
    | pl p i => exact g3 (.pl p i) c ri (by rw [cont_putAll_pl] at hq; exact hq) h4
    | reg q =>
     rw [cont_putAll] at hq
     split at hq
     ·rename_i hin
      have hlt : q - fr < mrs.length := by rw [← hlen]; omega
      have hri : extN ρ fr mrs q = some mrs[q - fr] := by
       have := hρ' (q - fr) _ (List.getElem?_eq_getElem hlt)
       rwa [show fr + (q - fr) = q by omega] at this
      rw [hri] at h4; cases h4
      exact fun hb2 => hap.1 b hb' ⟨_, List.getElem_mem hlt, hb2⟩
     ·rename_i hout
      rw [extN_out (by rw [← hlen]; exact hout)] at h4
      exact g3 q c ri hq h4)
  refine ⟨extN ρ fr mrs, fun q x hq => ?_, h3.less (fun i => ?_) (fun q c hq => ?_) (fun q hq => ?_) (fun p => ?_)⟩
  ·cases q with
   | pl p i => exact hq
   | reg q =>
    rw [extN_out]
    ·exact hq
    ·intro hc'
     have := h.fresh q (by rw [show q = fr + (q - fr) by omega]; exact hfr _ (by omega))
     rw [hq] at this; cases this
  ·show (putAll (s.setObj ur _) fr _).get i = _
   rw [get_putAll]
   show s.get i = (putAll s fr _).get i
   rw [get_putAll]
  ·have hq' : (putAll (s.setObj ur (.live (.box ⟨opnT t fr, opnV t v fr⟩))) fr (opnC t v fr)).cont q = some c := hq
   cases q with
   | pl p i =>
    rw [cont_putAll_pl] at hq'
    rw [St.cont_setObj_ne' (fun e => by cases e), cont_putAll_pl]
    rw [St.cont_setObj_ne' (fun e => by cases e)] at hq'
    exact hq'
   | reg q =>
    rw [cont_putAll] at hq'
    rw [St.cont_setObj]
    split at hq'
    ·rename_i hin
     rw [if_neg (fun e => by cases e; exact hne (by rw [← hlen]; exact hin)), cont_putAll, if_pos hin]; exact hq'
    ·rename_i hout
     rw [St.cont_setObj] at hq'
     split at hq'
     ·rename_i e; rw [if_pos e]; exact hq'
     ·rename_i e; rw [if_neg e, cont_putAll, if_neg hout]; exact hq'
  ·have hq' : ol (putAll (s.setObj ur (.live (.box ⟨opnT t fr, opnV t v fr⟩))) fr (opnC t v fr)).objs q = none := hq
   rw [ol_putAll] at hq'
   rw [ol_setObj]
   split at hq'
   ·rename_i hin
    rw [if_neg (fun e => by subst e; exact hne (by rw [← hlen]; exact hin)), ol_putAll, if_pos hin]; exact hq'
   ·rename_i hout
    rw [ol_setObj] at hq'
    split at hq'
    ·cases hq'
    ·rename_i e; rw [if_neg e, ol_putAll, if_neg hout]; exact hq'
  ·show (putAll (s.setObj ur _) fr _).pln p = _
   simp only [St.pln, putAll_pls, St.setObj]
theorem ownTy_none : ∀ (rs : List RM), nOwn rs = 0 → ownTy rs = none
 | [], _ => rfl
 | .val t :: rs, h => ownTy_none rs h
 | .own t :: rs, h => by simp [nOwn] at h
 | .ownp ps t :: rs, h => by simp [nOwn] at h
theorem resL_split {G : Nat → Prop} {bs : Nat → Nat} : ∀ (rs : List RM) (v : RDen rs) (xs : List Value) (ris : List RI), nOwn rs ≤ 1 → ResRepL G w (plR ρ) rs v xs ris →
  (ownTy rs = none ∧ rPls rs = [] ∧ ris = [] ∧ ∀ ρ1 : RK → Option RI, (∀ k x, ρ k = some x → ρ1 k = some x) → RepVs G (mem w) ρ1 (resChain id rs) (resChainV bs id rs v) xs) ∨
  (∃ t x, ∃ (e : ownTy rs = some (.cl t)), rPls rs = [] ∧ TRepV G w (plR ρ) t (cast (congrArg ODen e) (ownV rs v)) x ris ∧ ∀ ρ1 : RK → Option RI, (∀ k x, ρ k = some x → ρ1 k = some x) → RepV1 G (mem w) ρ1 (opnT t id) (opnV t (cast (congrArg ODen e) (ownV rs v)) id) x → RepVs G (mem w) ρ1 (resChain id rs) (resChainV bs id rs v) xs) ∨
  (∃ ps t x, ∃ (e : ownTy rs = some (.clp ps t)), rPls rs = ps ∧ (∃ ρr r1 rp, (∀ p i, inPl p ps = false → ρr (.pl p i) = plR ρ (.pl p i)) ∧ ris = r1 ++ [rp] ∧ TRepV G w ρr t ((cast (congrArg ODen e) (ownV rs v) : PlDen ps × t.den)).2 x r1 ∧ PRep G w ρr ps ((cast (congrArg ODen e) (ownV rs v) : PlDen ps × t.den)).1 rp) ∧
   ∀ ρ1 : RK → Option RI, (∀ k x, ρ k = some x → ρ1 k = some x) → RepV1 G (mem w) ρ1 (opnT t id) (opnV t (shV bs t ((cast (congrArg ODen e) (ownV rs v) : PlDen ps × t.den)).2) id) x → RepVs G (mem w) ρ1 (resChain id rs) (resChainV bs id rs v) xs)
 | [], v, xs, ris, _, h => .inl ⟨rfl, rfl, h.2, fun ρ1 _ => h.1⟩
 | .val t :: rs, v, xs, ris, hn, ⟨x, l, r1, r2, e1, e2, h1, h2⟩ => by
  have hr1 := h1.1
  subst hr1
  simp only [List.nil_append] at e2
  subst e2
  have hx : ∀ ρ1 : RK → Option RI, (∀ k x, ρ k = some x → ρ1 k = some x) → RepV1 G (mem w) ρ1 t v.1 x := fun ρ1 hle => RepV1.hold (ρ := plR ρ) h1.2.1 (fun p _ i x hx => hle _ _ hx) h1.2.2
  rcases resL_split (bs := bs) rs v.2 l ris hn h2 with ⟨g1, g2, g3, g4⟩ | ⟨t', x', e, g0, g1, g2⟩ | ⟨ps, t', x', e, g0, g1, g2⟩
  ·exact .inl ⟨g1, g2, g3, fun ρ1 hle => ⟨x, l, e1, hx ρ1 hle, g4 ρ1 hle⟩⟩
  ·exact .inr (.inl ⟨t', x', e, g0, g1, fun ρ1 hle hr => ⟨x, l, e1, hx ρ1 hle, g2 ρ1 hle hr⟩⟩)
  ·exact .inr (.inr ⟨ps, t', x', e, g0, g1, fun ρ1 hle hr => ⟨x, l, e1, hx ρ1 hle, g2 ρ1 hle hr⟩⟩)
 | .own t :: rs, v, xs, ris, hn, ⟨x, l, r1, r2, e1, e2, h1, h2⟩ => by
  have hn0 : nOwn rs = 0 := by simp only [nOwn] at hn; omega
  refine .inr (.inl ⟨t, x, rfl, rfl, ?_⟩)
  rcases resL_split (bs := bs) rs v.2 l r2 (by omega) h2 with ⟨g1, g2, g3, g4⟩ | ⟨t', x', e, _⟩ | ⟨ps, t', x', e, _⟩
  ·subst g3
   rw [List.append_nil] at e2
   subst e2
   exact ⟨h1, fun ρ1 hle hr => ⟨x, l, e1, hr, g4 ρ1 hle⟩⟩
  ·rw [ownTy_none rs hn0] at e; cases e
  ·rw [ownTy_none rs hn0] at e; cases e
 | .ownp ps t :: rs, v, xs, ris, hn, ⟨x, l, r1, r2, e1, e2, h1, h2⟩ => by
  have hn0 : nOwn rs = 0 := by simp only [nOwn] at hn; omega
  refine .inr (.inr ⟨ps, t, x, rfl, rfl, ?_⟩)
  rcases resL_split (bs := bs) rs v.2 l r2 (by omega) h2 with ⟨g1, g2, g3, g4⟩ | ⟨t', x', e, _⟩ | ⟨ps', t', x', e, _⟩
  ·subst g3
   rw [List.append_nil] at e2
   subst e2
   exact ⟨h1, fun ρ1 hle hr => ⟨x, l, e1, hr, g4 ρ1 hle⟩⟩
  ·rw [ownTy_none rs hn0] at e; cases e
  ·rw [ownTy_none rs hn0] at e; cases e
theorem res_split {G : Nat → Prop} {bs : Nat → Nat} {rs : List RM} {v : RDen rs} {val : Value} {ris : List RI} (hn : nOwn rs ≤ 1) (h : ResRep G w (plR ρ) rs v val ris) :
  (ownTy rs = none ∧ rPls rs = [] ∧ ris = [] ∧ ∀ ρ1 : RK → Option RI, (∀ k x, ρ k = some x → ρ1 k = some x) → RepV G (mem w) ρ1 (resT id rs) (resV bs id rs v) val) ∨
  (∃ t x, ∃ (e : ownTy rs = some (.cl t)), rPls rs = [] ∧ TRepV G w (plR ρ) t (cast (congrArg ODen e) (ownV rs v)) x ris ∧ ∀ ρ1 : RK → Option RI, (∀ k x, ρ k = some x → ρ1 k = some x) → RepV1 G (mem w) ρ1 (opnT t id) (opnV t (cast (congrArg ODen e) (ownV rs v)) id) x → RepV G (mem w) ρ1 (resT id rs) (resV bs id rs v) val) ∨
  (∃ ps t x, ∃ (e : ownTy rs = some (.clp ps t)), rPls rs = ps ∧ (∃ ρr r1 rp, (∀ p i, inPl p ps = false → ρr (.pl p i) = plR ρ (.pl p i)) ∧ ris = r1 ++ [rp] ∧ TRepV G w ρr t ((cast (congrArg ODen e) (ownV rs v) : PlDen ps × t.den)).2 x r1 ∧ PRep G w ρr ps ((cast (congrArg ODen e) (ownV rs v) : PlDen ps × t.den)).1 rp) ∧
   ∀ ρ1 : RK → Option RI, (∀ k x, ρ k = some x → ρ1 k = some x) → RepV1 G (mem w) ρ1 (opnT t id) (opnV t (shV bs t ((cast (congrArg ODen e) (ownV rs v) : PlDen ps × t.den)).2) id) x → RepV G (mem w) ρ1 (resT id rs) (resV bs id rs v) val) := by
 match rs, v, h with
 | [], v, h => exact .inl ⟨rfl, rfl, h, fun _ _ => trivial⟩
 | [r], v, h =>
  have h' : ResRepL G w (plR ρ) [r] v [val] ris := ⟨val, [], ris, [], rfl, by simp, h, rfl, rfl⟩
  have one : ∀ {ρ1 : RK → Option RI}, RepVs G (mem w) ρ1 (resChain id [r]) (resChainV bs id [r] v) [val] → RepV G (mem w) ρ1 (resT id [r]) (resV bs id [r] v) val := fun {ρ1} hv => by
   obtain ⟨x, l, e, h1, _⟩ := hv
   cases e
   exact RepV.of (t := r.ty id) h1
  rcases resL_split (bs := bs) (id := id) [r] v [val] ris hn h' with ⟨g1, g2, g3, g4⟩ | ⟨t', x', e, g0, g1, g2⟩ | ⟨ps, t', x', e, g0, g1, g2⟩
  ·exact .inl ⟨g1, g2, g3, fun ρ1 hle => one (g4 ρ1 hle)⟩
  ·exact .inr (.inl ⟨t', x', e, g0, g1, fun ρ1 hle hr => one (g2 ρ1 hle hr)⟩)
  ·exact .inr (.inr ⟨ps, t', x', e, g0, g1, fun ρ1 hle hr => one (g2 ρ1 hle hr)⟩)
 | r :: q :: rs, v, ⟨l, e, h⟩ =>
  rcases resL_split (bs := bs) (id := id) (r :: q :: rs) v l ris hn h with ⟨g1, g2, g3, g4⟩ | ⟨t', x', e', g0, g1, g2⟩ | ⟨ps, t', x', e', g0, g1, g2⟩
  ·exact .inl ⟨g1, g2, g3, fun ρ1 hle => ⟨l, e, g4 ρ1 hle⟩⟩
  ·exact .inr (.inl ⟨t', x', e', g0, g1, fun ρ1 hle hr => ⟨l, e, g2 ρ1 hle hr⟩⟩)
  ·exact .inr (.inr ⟨ps, t', x', e', g0, g1, fun ρ1 hle hr => ⟨l, e, g2 ρ1 hle hr⟩⟩)
theorem setO_cast {k fr : Nat} : ∀ {nt : Option NK} {T : Ty} {v : ODen nt} (e : nt = some (.cl T)), setO s k fr nt v = setNK s k fr (.cl T) (cast (congrArg ODen e) v) := by
 intro nt T v e; subst e; rfl
theorem setO_castp {k fr : Nat} : ∀ {nt : Option NK} {ps : List (Nat × Ty)} {T : Ty} {v : ODen nt} (e : nt = some (.clp ps T)), setO s k fr nt v = setNK s k fr (.clp ps T) (cast (congrArg ODen e) v) := by
 intro nt ps T v e; subst e; rfl
theorem setO_none {k fr : Nat} : ∀ {nt : Option NK} {v : ODen nt} (e : nt = none), setO s k fr nt v = s := by
 intro nt v e; subst e; rfl
structure ResSt (F0 : Bs) (M : Nat → Prop) (W0 : World) (G : Nat → Prop) (ρ : RK → Option RI) (base : St) (a : Act) (w : World) (id : Nat) (rs : List RM) (rrs : List RI) (T : Ty) (v : T.den) (val : Value) (s1 : St) (ρ1 : RK → Option RI) : Prop where
 rel : RelAt F0 M W0 G ρ1 s1 a w
 le : ∀ k x, ρ k = some x → ρ1 k = some x
 rep : RepV G (mem w) ρ1 T v val
 cont : ∀ k c, s1.cont k = some c → base.cont k = some c ∨ ∃ ri, ρ1 k = some ri ∧ ∀ b, ri.blk b → Blk rrs b
 ol : ∀ q, q ∉ newIds id (ownTy rs) → ol s1.objs q = ol base.objs q
 pls : rPls rs = [] → s1.pls = base.pls
theorem bsOf_in {ps : List (Nat × Ty)} (h : plsOk s ps = true) : (∀ p, inPl p ps = true → s.pln p = some (bsOf s ps p)) ∧ ∀ p, inPl p ps = false → bsOf s ps p = 0 := by
 refine ⟨fun p hp => ?_, fun p hp => by simp [bsOf, hp]⟩
 simp only [plsOk, Bool.and_eq_true] at h
 obtain ⟨q, hq, rfl⟩ := List.mem_map.1 (inPl_mem.1 hp)
 have := List.all_eq_true.1 h.2 q hq
 simp only [bsOf, hp, cond_true]
 unfold St.pln
 have this := of_decide_eq_true this
 unfold pty at this
 cases hq' : pol s.pls q.1 with
 | none => rw [hq'] at this; cases this
 | some q' => rfl
theorem putAll_pol {k : Nat} {cs : List Cont} {p : Nat} : pol (putAll s k cs).pls p = pol s.pls p := by rw [putAll_pls]
theorem res_state {G : Nat → Prop} {base : St} (h : RelAt F0 M W0 G ρ base a w) {rs : List RM} {v : RDen rs} {val : Value} {rrs : List RI} (hn : nOwn rs ≤ 1) (hr : ResRep G w (plR ρ) rs v val rrs) (hf : ∀ q ∈ newIds id (ownTy rs), ol base.objs q = none) (hp : plsOk base (rPls rs) = true)
  (hap : Apart rrs) (hb : ∀ b, Blk rrs b → ¬ G b ∧ (W0.heap.size ≤ b ∨ M b) ∧ ∀ q c ri, base.cont q = some c → ρ q = some ri → ¬ ri.blk b) :
  ∃ ρ1, ResSt F0 M W0 G ρ base a w id rs rrs (resT id rs) (resV (bsOf base (rPls rs)) id rs v) val (setO base id (id + 1) (ownTy rs) (ownV rs v)) ρ1 := by
 rcases res_split (bs := bsOf base (rPls rs)) (id := id) hn hr with ⟨g1, g2, g3, g4⟩ | ⟨t, x, e, g0, g1, g2⟩ | ⟨ps, t, x, e, g0, ⟨ρr, r1, rp, k1, k2, k3, k4⟩, g2⟩
 ·refine ⟨ρ, ?_, fun _ _ h => h, g4 ρ fun _ _ h => h, fun k c hk => .inl ?_, fun q _ => ?_, fun _ => ?_⟩
  ·rw [setO_none g1]; exact h
  ·rw [setO_none g1] at hk; exact hk
  ·rw [setO_none g1]
  ·rw [setO_none g1]
 ·rw [setO_cast e, setNK_new]
  have hρ1 : ∀ (j : Nat) ri, rrs[j]? = some ri → extN ρ id rrs (id + j) = some ri := fun j ri hj => extN_at hj
  obtain ⟨m1, cs, m2⟩ := opn_V1 (ρ := extN ρ id rrs) (ρp := plR ρ) (fun _ _ _ h => h) g1 hρ1
  have hlen := m2.len
  have hfr : ∀ j, j < rrs.length → ol base.objs (id + j) = none := fun j hj => hf _ (by rw [e]; show id + j ∈ idsFrom id (cnt t); rw [mem_idsFrom]; omega)
  have hrel := adds_law h (k := id) (cs := opnC t (cast (congrArg ODen e) (ownV rs v)) id) (ris := rrs) (by rw [opnC_length, hlen]) hfr hap hb m2.conts
  have hle : ∀ k x, ρ k = some x → extN ρ id rrs k = some x := fun k x hk => by
   cases k with
   | pl p i => exact hk
   | reg q =>
    rw [extN_out]
    ·exact hk
    ·intro hc
     have := h.fresh q (by rw [show q = id + (q - id) by omega]; exact hfr _ (by omega))
     rw [hk] at this; cases this
  refine ⟨extN ρ id rrs, hrel, hle, g2 _ hle m1, fun k c hk => ?_, fun q hq => ?_, fun _ => putAll_pls _⟩
  ·cases k with
   | pl p i => rw [cont_putAll_pl] at hk; exact .inl hk
   | reg q =>
    rw [cont_putAll] at hk
    split at hk
    ·rename_i hin
     rw [opnC_length, ← hlen] at hin
     have hlt : q - id < rrs.length := by omega
     refine .inr ⟨rrs[q - id], ?_, fun b hb => ⟨_, List.getElem_mem hlt, hb⟩⟩
     have := hρ1 (q - id) _ (List.getElem?_eq_getElem hlt)
     rwa [show id + (q - id) = q by omega] at this
    ·exact .inl hk
  ·rw [ol_putAll, if_neg]
   rw [opnC_length]
   intro hc
   exact hq (by rw [e]; show q ∈ idsFrom id (cnt t); rw [mem_idsFrom]; exact hc)
 ·obtain ⟨q1, q2⟩ := bsOf_in (s := base) (ps := ps) (by rw [← g0]; exact hp)
  rw [setO_castp e]
  generalize (cast (congrArg ODen e) (ownV rs v) : PlDen ps × t.den) = pv at k3 k4 g2 ⊢
  obtain ⟨pv, tv⟩ := pv
  simp only at k3 k4 g2
  rw [g0] at g2 hp
  rw [g0]
  have hA := addPls_law ps pv hp q1
  subst k2
  obtain ⟨ha1, ha2, ha3⟩ := Apart.append.1 hap
  have hrp : ∀ b, rp.blk b → Blk (r1 ++ [rp]) b := fun b hb => ⟨rp, by simp, hb⟩
  obtain ⟨hrel, hle, hsh⟩ := pools_law h q1 q2 hA k4 (fun p i hp => k1 p i hp) (fun b hb' => hb b (hrp b hb'))
  have hreg : ∀ q, ol (addPls (bsOf base ps) base ps pv).objs q = ol base.objs q := fun q => by rw [hA.objs]
  have hρ1 : ∀ (j : Nat) ri, r1[j]? = some ri → extN (extP ρ (bsOf base ps) ps ρr) id r1 (id + j) = some ri := fun j ri hj => extN_at hj
  have k3' := shV_V (ρ' := extP ρ (bsOf base ps) ps ρr) hsh k3
  obtain ⟨m1, cs, m2⟩ := opn_V1 (ρ := extN (extP ρ (bsOf base ps) ps ρr) id r1) (ρp := extP ρ (bsOf base ps) ps ρr) (fun _ _ _ h => h) k3' hρ1
  have hlen := m2.len
  have hfr : ∀ j, j < r1.length → ol (addPls (bsOf base ps) base ps pv).objs (id + j) = none := fun j hj => by
   rw [hreg]; exact hf _ (by rw [e]; show id + j ∈ idsFrom id (cnt t); rw [mem_idsFrom]; omega)
  have hpob : ∀ {k c ri b}, (addPls (bsOf base ps) base ps pv).cont k = some c → extP ρ (bsOf base ps) ps ρr k = some ri → ri.blk b → (∃ ri', base.cont k = some c ∧ ρ k = some ri' ∧ ri' = ri) ∨ rp.blk b := fun {k c ri b} hk hr hb => by
   have old : base.cont k = some c → ∃ ri', base.cont k = some c ∧ ρ k = some ri' ∧ ri' = ri := fun h0 => by
    obtain ⟨ri', h1, _⟩ := h.cobj k c h0
    have := hle _ _ h1
    rw [hr] at this; cases this
    exact ⟨ri, h0, h1, rfl⟩
   cases k with
   | reg q => exact .inl (old (by simpa only [St.cont, hA.objs] using hk))
   | pl p i =>
    rw [hA.cont] at hk
    split at hk
    ·rename_i hp'
     split at hk
     ·exact .inl (old hk)
     ·rename_i hge
      split at hk
      ·rename_i ob hob
       obtain ⟨ri', n1, n2, n3⟩ := k4.obj p _ _ hob
       have := hsh p _ _ n1
       rw [show i - bsOf base ps p + bsOf base ps p = i by omega, hr] at this
       cases this
       exact .inr (.inr (n3 b hb))
      ·cases hk
    ·exact .inl (old hk)
  have hrel2 := adds_law hrel (k := id) (cs := opnC t (shV (bsOf base ps) t tv) id) (ris := r1) (by rw [opnC_length, hlen]) hfr ha1 (fun b hb' => by
   obtain ⟨n1, n2, n3⟩ := hb b (Blk.append.2 (.inl hb'))
   refine ⟨n1, n2, fun k c ri hk hr hbb => ?_⟩
   rcases hpob hk hr hbb with ⟨ri', h0, h1, rfl⟩ | h0
   ·exact n3 k c ri' h0 h1 hbb
   ·exact ha3 b hb' ⟨rp, by simp, h0⟩) m2.conts
  have hle2 : ∀ k x, ρ k = some x → extN (extP ρ (bsOf base ps) ps ρr) id r1 k = some x := fun k x hk => by
   cases k with
   | pl p i => exact hle _ _ hk
   | reg q =>
    rw [extN_out]
    ·exact hk
    ·intro hc
     have := h.fresh q (by have := hfr (q - id) (by omega); rw [hreg] at this; rwa [show id + (q - id) = q by omega] at this)
     rw [hk] at this; cases this
  have hpp : plsOk (putAll base id (opnC t (shV (bsOf base ps) t tv) id)) ps = true := by
   have e : ∀ p, pty (putAll base id (opnC t (shV (bsOf base ps) t tv) id)) p = pty base p := fun p => by simp only [pty, putAll_pol]
   simp only [plsOk, e] at hp ⊢; exact hp
  have hA2 := addPls_law (bs := bsOf base ps) ps pv hpp (fun p hp' => by rw [show (putAll base id (opnC t (shV (bsOf base ps) t tv) id)).pln p = base.pln p by simp only [St.pln, putAll_pls]]; exact q1 p hp')
  have hcont : ∀ k, (addPls (bsOf base ps) (putAll base id (opnC t (shV (bsOf base ps) t tv) id)) ps pv).cont k = (putAll (addPls (bsOf base ps) base ps pv) id (opnC t (shV (bsOf base ps) t tv) id)).cont k := fun k => by
   cases k with
   | reg q =>
    have e1 : (addPls (bsOf base ps) (putAll base id (opnC t (shV (bsOf base ps) t tv) id)) ps pv).cont (.reg q) = (putAll base id (opnC t (shV (bsOf base ps) t tv) id)).cont (.reg q) := by simp only [St.cont, hA2.objs]
    rw [e1, cont_putAll, cont_putAll]
    have e2 : (addPls (bsOf base ps) base ps pv).cont (.reg q) = base.cont (.reg q) := by simp only [St.cont, hA.objs]
    rw [e2]
   | pl p i =>
    rw [hA2.cont, cont_putAll_pl, cont_putAll_pl, hA.cont]
  have hol : ∀ q, ol (addPls (bsOf base ps) (putAll base id (opnC t (shV (bsOf base ps) t tv) id)) ps pv).objs q = ol (putAll (addPls (bsOf base ps) base ps pv) id (opnC t (shV (bsOf base ps) t tv) id)).objs q := fun q => by
   rw [hA2.objs, ol_putAll, ol_putAll, hA.objs]
  have hst : setNK base id (id + 1) (.clp ps t) (pv, tv) = addPls (bsOf base ps) (putAll base id (opnC t (shV (bsOf base ps) t tv) id)) ps pv := rfl
  rw [hst]
  refine ⟨extN (extP ρ (bsOf base ps) ps ρr) id r1, hrel2.less (fun i => ?_) (fun k c hk => by rw [← hcont]; exact hk) (fun q hq => by rw [← hol]; exact hq) (fun p => ?_), hle2, g2 _ hle2 m1, fun k c hk => ?_, fun q hq => ?_, fun h0 => ?_⟩
  ·rw [get_putAll]
   have : (addPls (bsOf base ps) (putAll base id (opnC t (shV (bsOf base ps) t tv) id)) ps pv).get i = (putAll base id (opnC t (shV (bsOf base ps) t tv) id)).get i := by simp only [St.get, hA2.slots, hA2.n]
   rw [this, get_putAll]
   simp only [St.get, hA.slots, hA.n]
  ·rw [hA2.pln]
   have : (putAll (addPls (bsOf base ps) base ps pv) id (opnC t (shV (bsOf base ps) t tv) id)).pln p = (addPls (bsOf base ps) base ps pv).pln p := by simp only [St.pln, putAll_pls]
   rw [this, hA.pln]
   simp only [St.pln, putAll_pls]
  ·rw [hcont] at hk
   cases k with
   | pl p i =>
    rw [cont_putAll_pl] at hk
    obtain ⟨ri, n1, _⟩ := hrel.cobj _ _ hk
    by_cases h0 : base.cont (.pl p i) = some c
    ·exact .inl h0
    ·refine .inr ⟨ri, n1, fun b hb' => ?_⟩
     rcases hpob hk n1 hb' with ⟨ri', h1, _⟩ | h1
     ·exact absurd h1 h0
     ·exact hrp b h1
   | reg q =>
    rw [cont_putAll] at hk
    split at hk
    ·rename_i hin
     rw [opnC_length, ← hlen] at hin
     have hlt : q - id < r1.length := by omega
     refine .inr ⟨r1[q - id], ?_, fun b hb => Blk.append.2 (.inl ⟨_, List.getElem_mem hlt, hb⟩)⟩
     have := hρ1 (q - id) _ (List.getElem?_eq_getElem hlt)
     rwa [show id + (q - id) = q by omega] at this
    ·exact .inl (by simpa only [St.cont, hA.objs] using hk)
  ·rw [hol, ol_putAll, if_neg]
   ·exact hreg q
   ·rw [opnC_length]
    intro hc
    exact hq (by rw [e]; show q ∈ idsFrom id (cnt t); rw [mem_idsFrom]; exact hc)
  ·have : ps = [] := g0.symm.trans h0
   subst this
   show (addPls _ _ [] pv).pls = _
   simp only [addPls, putAll_pls]
end Go.Vu
