/- Value semantics, part 19: a call by a function's promise. -/
import Derived.Test.YtfklhbmicfammaaVsLaw12
set_option linter.unusedVariables false
namespace Go.Vs
open Go

variable {P : Program} {tb : Tab} {R : Type} {F0 M F : Nat → Prop} {W0 w w' : World} {ρ : Nat → Option RI} {s : St} {a : Act} {m : Nat → Nat → Option Value} {id : Nat}

theorem noDup_cons {x : Nat} {l : List Nat} (h : noDup (x :: l) = true) : x ∉ l ∧ noDup l = true := by
  simp only [noDup, Bool.and_eq_true, Bool.not_eq_true'] at h
  exact ⟨fun hm => (by rw [List.contains_iff_mem.2 hm] at h; cases h.1), h.2⟩

theorem corr_blk : ∀ (mo : List (Nat × Bool)) (ris : List RI), Corr s ρ mo ris → ∀ b, Blk ris b → ∃ q ob ri p, q ∈ mo.map (·.1) ∧ s.obj q = some ob ∧ ρ q = some ri ∧ ri.A = some p ∧ p.1 = b
  | [], ris, h, b, hb => by
    obtain ⟨ri, h1, _⟩ := hb
    rw [h] at h1; simp at h1
  | (q, f) :: mo, ris, h, b, hb => by
    obtain ⟨ri, rs, ob, e, h1, h2, h3⟩ := h
    subst e
    obtain ⟨ri', h4, p, h5, h6⟩ := hb
    rcases List.mem_cons.1 h4 with rfl | h4
    · exact ⟨q, ob, ri', p, by simp, h2, h1, h5, h6⟩
    · obtain ⟨q', ob', ri2, p2, g1, g2⟩ := corr_blk mo rs h3 b ⟨ri', h4, p, h5, h6⟩
      exact ⟨q', ob', ri2, p2, by simp [g1], g2⟩

theorem corr_apart (h : RelAt F0 M W0 F ρ s a w) : ∀ (mo : List (Nat × Bool)) (ris : List RI), Corr s ρ mo ris → noDup (mo.map (·.1)) = true → Apart ris
  | [], ris, hc, hn => by rw [hc]; trivial
  | (q, f) :: mo, ris, hc, hn => by
    obtain ⟨ri, rs, ob, e, h1, h2, h3⟩ := hc
    subst e
    obtain ⟨hq, hn⟩ := noDup_cons hn
    refine ⟨fun p hp hb => ?_, corr_apart h mo rs h3 hn⟩
    obtain ⟨q', ob', ri', p', g1, g2, g3, g4, g5⟩ := corr_blk mo rs h3 _ hb
    have := h.sep q' q ob' ob ri' ri p' p g2 h2 g3 h1 g4 hp g5
    subst this
    exact hq g1

theorem opCall_some {Γ : Nat → List Ctr} {f : Nat} {xs : List TV} {e : Eff R} (he : opCall Γ f xs id s = some e) :
    ∃ c ∈ Γ f, ∃ v al mo, argsD s c.ps xs = some (v, al, mo) ∧ noDup (mo.map (·.1)) = true ∧ (∀ q ∈ al, q ∉ mo.map (·.1)) ∧ nOwn c.rs ≤ 1 ∧
      e = ⟨resT id c.rs, ownTy c.rs, mutTy c.ps, mutReg mo, (if c.rs.all RM.flat && c.ps.all PM.mutFlat then kills s mo else frzs (kills s mo) al), (Cnd.test (argsB s c.ps xs)).bind fun _ => (Cnd.look (c.g v)).map fun r => (resV id c.rs r.2, ownV c.rs r.2, r.1)⟩ := by
  have key : ∀ l : List Ctr, (∀ c ∈ l, c ∈ Γ f) → opCall.go xs id s l = some e → ∃ c ∈ Γ f, ∃ v al mo, argsD s c.ps xs = some (v, al, mo) ∧ noDup (mo.map (·.1)) = true ∧ (∀ q ∈ al, q ∉ mo.map (·.1)) ∧ nOwn c.rs ≤ 1 ∧
      e = ⟨resT id c.rs, ownTy c.rs, mutTy c.ps, mutReg mo, (if c.rs.all RM.flat && c.ps.all PM.mutFlat then kills s mo else frzs (kills s mo) al), (Cnd.test (argsB s c.ps xs)).bind fun _ => (Cnd.look (c.g v)).map fun r => (resV id c.rs r.2, ownV c.rs r.2, r.1)⟩ := by
    intro l
    induction l with
    | nil => intro _ h; simp [opCall.go] at h
    | cons c l ih =>
      intro hm h
      simp only [opCall.go] at h
      cases ha : argsD s c.ps xs with
      | none => simp only [ha] at h; exact ih (fun c hc => hm c (by simp [hc])) h
      | some q =>
        obtain ⟨v, al, mo⟩ := q
        simp only [ha] at h
        split at h
        · rename_i hc
          simp only [Bool.and_eq_true, decide_eq_true_eq] at hc
          cases h
          refine ⟨c, hm c (by simp), v, al, mo, ha, hc.1.1.1, fun q hq hq2 => ?_, hc.1.2, rfl⟩
          have := List.all_eq_true.1 hc.1.1.2 q hq
          rw [List.contains_iff_mem.2 hq2] at this
          cases this
        · cases h
  exact key _ (fun c hc => hc) he

theorem mutFlat_of : ∀ (ps : List PM) (t : Ty), ps.all PM.mutFlat = true → mutTy ps = some t → t.flat = true
  | [], t, _, h => by simp [mutTy] at h
  | .mut u :: ps, t, hf, h => by
    simp only [List.all_cons, Bool.and_eq_true, PM.mutFlat] at hf
    simp only [mutTy, Option.some.injEq] at h
    subst h; exact hf.1
  | .ro u :: ps, t, hf, h => by simp only [List.all_cons, Bool.and_eq_true] at hf; exact mutFlat_of ps t hf.2 (by simpa [mutTy] using h)
  | .mutp u :: ps, t, hf, h => by
    simp only [List.all_cons, Bool.and_eq_true, PM.mutFlat] at hf
    simp only [mutTy, Option.some.injEq] at h
    subst h; exact hf.1
  | .own u :: ps, t, hf, h => by simp only [List.all_cons, Bool.and_eq_true] at hf; exact mutFlat_of ps t hf.2 (by simpa [mutTy] using h)
theorem ownFlat_of : ∀ (rs : List RM) (t : Ty), rs.all RM.flat = true → ownTy rs = some t → t.flat = true
  | [], t, _, h => by simp [ownTy] at h
  | .own u :: rs, t, hf, h => by
    simp only [List.all_cons, Bool.and_eq_true, RM.flat] at hf
    simp only [ownTy, Option.some.injEq] at h
    subst h; exact hf.1
  | .val u :: rs, t, hf, h => by simp only [List.all_cons, Bool.and_eq_true] at hf; exact ownFlat_of rs t hf.2 (by simpa [ownTy] using h)

theorem mutReg_mem : ∀ (ps : List PM) (xs : List TV) {v : PDen ps} {al : List Nat} {mo : List (Nat × Bool)}, argsD s ps xs = some (v, al, mo) → ∀ t, mutTy ps = some t → mutReg mo ∈ mo.map (·.1)
  | [], _, v, al, mo, he, t, ht => by simp [mutTy] at ht
  | .ro u :: ps, [], v, al, mo, he, t, ht => by simp [argsD] at he
  | .mut u :: ps, [], v, al, mo, he, t, ht => by simp [argsD] at he
  | .own u :: ps, [], v, al, mo, he, t, ht => by simp [argsD] at he
  | .mutp u :: ps, [], v, al, mo, he, t, ht => by simp [argsD] at he
  | .ro u :: ps, x :: xs, v, al, mo, he, t, ht => by
    simp only [argsD] at he
    cases hrec : argsD s ps xs with
    | none => simp [hrec] at he
    | some q =>
      obtain ⟨rv, al', mo'⟩ := q
      simp only [hrec] at he
      have key : mo = mo' := by
        split at he
        · split at he
          · cases he; rfl
          · obtain ⟨xt, xv⟩ := x
            cases xt <;> simp only [reduceCtorEq] at he
            · rename_i q _ _
              cases hob : s.obj q with
              | none => simp [hob] at he
              | some ob =>
                simp only [hob] at he
                split at he
                · cases he; rfl
                · cases he
            · rename_i q _ _
              cases hob : s.obj q with
              | none => simp [hob] at he
              | some ob =>
                simp only [hob] at he
                split at he
                · cases he; rfl
                · cases he
        · cases he
      subst key
      exact mutReg_mem ps xs hrec t (by simpa [mutTy] using ht)
  | .mut u :: ps, x :: xs, v, al, mo, he, t, ht => by
    simp only [argsD] at he
    cases hrec : argsD s ps xs with
    | none => simp [hrec] at he
    | some q =>
      obtain ⟨rv, al', mo'⟩ := q
      simp only [hrec] at he
      obtain ⟨xt, xv⟩ := x
      cases xt <;> simp only [reduceCtorEq] at he
      rename_i q
      cases hob : s.obj q with
      | none => simp [hob] at he
      | some ob =>
        simp only [hob] at he
        split at he
        · cases he; simp [mutReg]
        · cases he
  | .mutp u :: ps, x :: xs, v, al, mo, he, t, ht => by
    simp only [argsD] at he
    cases hrec : argsD s ps xs with
    | none => simp [hrec] at he
    | some q =>
      obtain ⟨rv, al', mo'⟩ := q
      simp only [hrec] at he
      split at he
      · rename_i q ix
        cases hob : s.obj q with
        | none => simp [hob] at he
        | some ob =>
          simp only [hob] at he
          split at he
          · cases he; simp [mutReg]
          · cases he
      · cases he
  | .own u :: ps, x :: xs, v, al, mo, he, t, ht => by
    simp only [argsD] at he
    cases hrec : argsD s ps xs with
    | none => simp [hrec] at he
    | some q =>
      obtain ⟨rv, al', mo'⟩ := q
      simp only [hrec] at he
      obtain ⟨xt, xv⟩ := x
      cases xt <;> simp only [reduceCtorEq] at he
      rename_i q
      cases hob : s.obj q with
      | none => simp [hob] at he
      | some ob =>
        simp only [hob] at he
        split at he
        · cases he
          have := mutReg_mem ps xs hrec t (by simpa [mutTy] using ht)
          simp only [mutReg, List.map_cons, List.mem_cons]
          exact .inr this
        · cases he

theorem call_law {Γ : Nat → List Ctr} (hΓ : CtrsOk P Γ) (h : RelAt F0 M W0 F ρ s a w) (hf : s.objs[id]? = some .fresh) {f : Nat} {xs : List TV} {vals : List Value} {e : Eff R} (he : opCall Γ f xs id s = some e) (hr : RepL F (mem w) ρ xs vals) :
    ∀ v, e.k.c = some v → Calls P f vals.toArray w fun en w' => ∃ val F' ρ', en = .returned val ∧ ∀ d, RelAt F0 M W0 F' ρ' (e.out d id v) (a.put d val) w' := by
  obtain ⟨c, hc, vs, al, mo, ha, hnd, hdis, hno, rfl⟩ := opCall_some he
  intro v hv
  simp only [Cnd.bind, Cnd.test, Cnd.map, Cnd.look] at hv
  obtain ⟨hB, hv⟩ : argsB s c.ps xs = true ∧ (c.g vs).map (fun r => (resV id c.rs r.2, ownV c.rs r.2, r.1)) = some v := by
    cases hb : argsB s c.ps xs with
    | true => exact ⟨rfl, by rw [hb] at hv; exact hv⟩
    | false => rw [hb] at hv; cases hv
  cases hg : c.g vs with
  | none => rw [hg] at hv; cases hv
  | some r =>
    rw [hg] at hv
    obtain rfl := Option.some.inj hv
    obtain ⟨r1, r2⟩ := r
    -- what is read by the callee
    have hFc : ∀ b, F b → (fun b => F b ∨ ∃ q ∈ al, ∃ ob ri p, s.obj q = some ob ∧ ρ q = some ri ∧ ri.A = some p ∧ p.1 = b) b := fun b hb => .inl hb
    obtain ⟨ris, hargs, hcorr, hal, hmut⟩ := args_law h hFc c.ps xs vals ha hB hr (fun q hq ob ri p h1 h2 h3 => .inr ⟨q, hq, ob, ri, p, h1, h2, h3, rfl⟩)
    have hap := corr_apart h mo ris hcorr hnd
    have hlt : ∀ b, (F b ∨ ∃ q ∈ al, ∃ ob ri p, s.obj q = some ob ∧ ρ q = some ri ∧ ri.A = some p ∧ p.1 = b) → b < w.heap.size := fun b hb => by
      rcases hb with hb | ⟨q, hq, ob, ri, p, h1, h2, h3, rfl⟩
      · exact h.lt b hb
      · obtain ⟨ri', h2', ho⟩ := h.obj q ob h1
        rw [h2] at h2'; cases h2'
        exact ho.blockLt h3
    have hnF : ∀ b, Blk ris b → ¬ (F b ∨ ∃ q ∈ al, ∃ ob ri p, s.obj q = some ob ∧ ρ q = some ri ∧ ri.A = some p ∧ p.1 = b) := fun b hb => by
      obtain ⟨q, ob, ri, p, g1, g2, g3, g4, rfl⟩ := corr_blk mo ris hcorr b hb
      rintro (h1 | ⟨q', hq', ob', ri', p', e1, e2, e3, e4⟩)
      · exact (h.own q ob ri p g2 g3 g4).1 h1
      · have := h.sep q' q ob' ob ri' ri p' p e1 g2 e2 g3 e3 g4 e4
        subst this
        exact hdis q' hq' g1
    have hcall := (hΓ f c hc).1 vs (r1, r2) hg w _ vals ris hlt hargs hap hnF
    refine hcall.mono fun en w' ⟨val, Fn, e1, hkept, hFn, hres, hmr⟩ => ?_
    subst e1
    -- the regions that were handed in are given up
    have hk := kills_law mo h
    have hkobj : ∀ q ob, (kills s mo).obj q = some ob → s.obj q = some ob ∧ q ∉ mo.map (·.1) := fun q ob => kills_obj mo
    have hidmo : id ∉ mo.map (·.1) := fun hm => by
      have : ∀ (mo : List (Nat × Bool)) (ris : List RI), Corr s ρ mo ris → id ∈ mo.map (·.1) → ∃ ob, s.obj id = some ob := by
        intro mo
        induction mo with
        | nil => intro _ _ h; simp at h
        | cons x mo ih =>
          obtain ⟨q, b⟩ := x
          intro ris hc hm
          obtain ⟨ri, rs, ob, e, h1, h2, h3⟩ := hc
          simp only [List.map_cons, List.mem_cons] at hm
          rcases hm with rfl | hm
          · exact ⟨ob, h2⟩
          · exact ih rs h3 hm
      obtain ⟨ob, h1⟩ := this mo ris hcorr hm
      simp [St.obj, hf] at h1
    have hkf : (kills s mo).objs[id]? = some ObS.fresh := by rw [kills_same mo hidmo]; exact hf
    -- what was read and may still be named in the results is held
    obtain ⟨F1, sb, hsb, hb1, hF1, hF1up, hall, hsobj, hsf, hsd⟩ : ∃ F1 sb, sb = (if c.rs.all RM.flat && c.ps.all PM.mutFlat then kills s mo else frzs (kills s mo) al) ∧ RelAt F0 M W0 F1 ρ sb a w ∧ (∀ b, F b → F1 b) ∧
        (∀ b, F1 b → F b ∨ ∃ q ∈ al, ∃ ob ri p, s.obj q = some ob ∧ ρ q = some ri ∧ ri.A = some p ∧ p.1 = b) ∧
        ((∀ b, (F b ∨ ∃ q ∈ al, ∃ ob ri p, s.obj q = some ob ∧ ρ q = some ri ∧ ri.A = some p ∧ p.1 = b) → F1 b) ∨ (c.rs.all RM.flat = true ∧ c.ps.all PM.mutFlat = true)) ∧
        (∀ q ob, sb.obj q = some ob → (kills s mo).obj q = some ob) ∧ sb.objs[id]? = some ObS.fresh ∧ (∀ q : Nat, (kills s mo).objs[q]? = some ObS.dead → sb.objs[q]? = some ObS.dead) := by
      cases hfl : (c.rs.all RM.flat && c.ps.all PM.mutFlat) with
      | true =>
        refine ⟨F, _, rfl, by simpa using hk, fun _ h => h, fun b hb => .inl hb, .inr (by simpa using hfl), fun q ob h => by simpa using h, by simpa using hkf, fun q h => by simpa using h⟩
      | false =>
        obtain ⟨F1, g1, g2, g3, g4, g5, g6, g7⟩ := frzs_law al hk
        refine ⟨F1, _, rfl, by simpa using g1, g2, fun b hb => ?_, .inl fun b hb => ?_, fun q ob h => g5 q ob (by simpa using h), by simpa using g7 id hkf, fun q h => by simpa using g6 q h⟩
        · rcases g3 b hb with h1 | ⟨q, hq, ob, ri, p, h1, h2⟩
          · exact .inl h1
          · exact .inr ⟨q, hq, ob, ri, p, (hkobj q ob h1).1, h2⟩
        · rcases hb with hb | ⟨q, hq, ob, ri, p, h1, h2, h3, rfl⟩
          · exact g2 b hb
          · exact g4 q hq ob ri p (by rw [St.obj_iff] at h1 ⊢; rw [kills_same mo (hdis q hq)]; exact h1) h2 h3
    rw [← hsb]
    -- memory as the callee left it
    have hblk : ∀ b, Blk ris b → ¬ F1 b ∧ (∀ r ob ri p, sb.obj r = some ob → ρ r = some ri → ri.A = some p → p.1 ≠ b) ∧ (b < W0.heap.size → M b) := fun b hb => by
      refine ⟨fun h1 => hnF b hb (hF1up b h1), fun q ob ri p h1 h2 h3 h4 => ?_, fun hl => ?_⟩
      · obtain ⟨g1, g2⟩ := hkobj q ob (hsobj q ob h1)
        obtain ⟨q', ob', ri', p', e1, e2, e3, e4, e5⟩ := corr_blk mo ris hcorr b hb
        have := h.sep q q' ob ob' ri ri' p p' g1 e2 h2 e3 h3 e4 (h4.trans e5.symm)
        subst this
        exact g2 e1
      · obtain ⟨q', ob', ri', p', e1, e2, e3, e4, rfl⟩ := corr_blk mo ris hcorr b hb
        exact (h.own q' ob' ri' p' e2 e3 e4).2.elim (fun h3 => absurd hl (by omega)) (fun hm => hm)
    have hw := hb1.world (Blk ris) hkept hblk
    have hwide := hw.widen Fn (fun b hb => by
      obtain ⟨g1, g2⟩ := hFn b hb
      refine ⟨g2, fun q ob ri p h1 h2 h3 h4 => ?_, .inl (Nat.le_trans h.kept.size g1)⟩
      obtain ⟨ri', h5, h6⟩ := hb1.obj q ob h1
      rw [h2] at h5; cases h5
      have := h6.blockLt h3
      omega)
    have hG : (∀ b, ((F b ∨ ∃ q ∈ al, ∃ ob ri p, s.obj q = some ob ∧ ρ q = some ri ∧ ri.A = some p ∧ p.1 = b) ∨ Fn b) → (F1 b ∨ Fn b)) ∨ (c.rs.all RM.flat = true ∧ c.ps.all PM.mutFlat = true) := by
      rcases hall with h1 | h1
      · exact .inl fun b hb => hb.imp (h1 b) (fun h => h)
      · exact .inr h1
    obtain ⟨rio, g1, g2, g3, g4⟩ := res_law (id := id) c.rs r2 val hno hres
    -- the result's own region
    have hstep1 : ∃ ρ', (∀ q x, ρ q = some x → ρ' q = some x) ∧ (∀ q, q ≠ id → ρ' q = ρ q) ∧ (∀ ri, rio = some ri → ρ' id = some ri) ∧ RelAt F0 M W0 (fun k => F1 k ∨ Fn k) ρ' (setNew sb id (ownTy c.rs) (ownV c.rs r2)) a w' ∧
        (∀ q ob, (setNew sb id (ownTy c.rs) (ownV c.rs r2)).obj q = some ob → q ≠ id → sb.obj q = some ob) ∧ (∀ q : Nat, q ≠ id → (setNew sb id (ownTy c.rs) (ownV c.rs r2)).objs[q]? = sb.objs[q]?) ∧
        (∀ ob, (setNew sb id (ownTy c.rs) (ownV c.rs r2)).obj id = some ob → ∃ ri, rio = some ri) := by
      have hfo := fun t => ownFlat_of c.rs t
      revert g1 g2 hfo
      generalize ownV c.rs r2 = ov
      revert ov
      generalize ownTy c.rs = ot
      intro ov g1 g2 hfo
      cases ot with
      | none =>
        refine ⟨ρ, fun _ _ h => h, fun _ _ => rfl, fun ri e => (by rw [g2 rfl] at e; cases e), hwide, fun q ob h _ => h, fun q _ => rfl, fun ob h1 => ?_⟩
        simp only [setNew] at h1
        simp [St.obj, hsf] at h1
      | some t =>
        obtain ⟨ri, e1, ho⟩ := g1
        have hidl : id < sb.objs.length := by
          rcases Nat.lt_or_ge id sb.objs.length with h5 | h5
          · exact h5
          · simp [List.getElem?_eq_none h5] at hsf
        have hext := hwide.ext id ri hsf
        have h0 : ρ id = none := hwide.fresh id (.inr ⟨_, hsf, rfl⟩)
        have hss : (sb.setObj id .dead).setObj id (.live ⟨t, ov⟩) = sb.setObj id (.live ⟨t, ov⟩) := by simp [St.setObj]
        refine ⟨Vs.ext ρ id ri, ext_le h0, fun q hq => by simp [Vs.ext, hq], fun ri' e => (by rw [e1] at e; cases e; exact ext_same), ?_, fun q ob h hq => ?_, fun q hq => ?_, fun ob _ => ⟨ri, e1⟩⟩
        · simp only [setNew]
          rw [← hss]
          refine hext.live id ri ⟨t, ov⟩ (by rw [setObj_objs, if_pos rfl, if_pos hidl]) ext_same (ORep.flatRep ?_ ho) (fun p hp => ?_)
          · exact hG.imp (fun h => h) (fun h => hfo t h.1 rfl)
          · obtain ⟨q1, q2⟩ := g3 ri p e1 hp
            have hnew : (w.heap.size ≤ p.1 ∨ Blk ris p.1) := q2.imp (fun h => h) Blk.own
            refine ⟨fun h1 => h1.elim (fun h2 => ?_) q1, ?_, fun q ob' ri' p' e1 e2 e3 e4 => ?_⟩
            · rcases hnew with h3 | h3
              · have := hb1.lt _ h2; omega
              · exact (hblk _ h3).1 h2
            · rcases hnew with h3 | h3
              · exact .inl (Nat.le_trans h.kept.size h3)
              · by_cases hl : p.1 < W0.heap.size
                · exact .inr ((hblk _ h3).2.2 hl)
                · exact .inl (by omega)
            · have hqid : q ≠ id := fun e => by
                subst e; rw [St.obj_setObj_same hidl] at e1; cases e1
              rw [St.obj_setObj_ne (Ne.symm hqid)] at e1
              simp only [Vs.ext, if_neg hqid] at e2
              rcases hnew with h3 | h3
              · obtain ⟨ri2, h5, h6⟩ := hb1.obj q ob' e1
                rw [e2] at h5; cases h5
                have := h6.blockLt e3
                omega
              · exact (hblk _ h3).2.1 q ob' ri' p' e1 e2 e3 e4.symm
        · simp only [setNew] at h
          rwa [St.obj_setObj_ne (Ne.symm hq)] at h
        · simp only [setNew, setObj_objs, if_neg (Ne.symm hq)]
    obtain ⟨ρ', k1, k2, k3, k4, k5, k6, k7⟩ := hstep1
    -- what was written
    have hstep2 : RelAt F0 M W0 (fun k => F1 k ∨ Fn k) ρ' (setNew (setNew sb id (ownTy c.rs) (ownV c.rs r2)) (mutReg mo) (mutTy c.ps) r1) a w' := by
      have hmr' := hmr
      have hmut' := hmut
      have hmm := fun t => mutReg_mem c.ps xs ha t
      have hfm := fun t => mutFlat_of c.ps t
      revert hmr' hmut' hmm hfm
      generalize r1 = ov
      revert ov
      generalize mutTy c.ps = mt
      intro ov hmr' hmut' hmm hfm
      cases mt with
      | none => exact k4
      | some t =>
        obtain ⟨ri, e1, ho⟩ := hmr'
        obtain ⟨ri', ob, e2, e3, e4⟩ := hmut' t rfl
        rw [e1] at e2; cases e2
        have hmem := hmm t rfl
        have hne : mutReg mo ≠ id := fun e => hidmo (e ▸ hmem)
        have hd : (setNew sb id (ownTy c.rs) (ownV c.rs r2)).objs[mutReg mo]? = some .dead := by
          rw [k6 _ hne]
          exact hsd _ (kills_dead mo (St.obj_lt e4) hmem)
        refine k4.live (mutReg mo) ri ⟨t, ov⟩ hd (by rw [k2 _ hne]; exact e3) (ORep.flatRep ?_ ho) (fun p hp => ?_)
        · exact hG.imp (fun h => h) (fun h => hfm t h.2 rfl)
        · have hb : Blk ris p.1 := ⟨ri, mutRI_mem _ _ _ e1, p, hp, rfl⟩
          refine ⟨fun h1 => h1.elim (hblk _ hb).1 (fun h2 => ?_), (h.own _ ob ri p e4 e3 hp).2, fun q ob' ri' p' f1 f2 f3 f4 => ?_⟩
          · have := (hFn _ h2).1
            obtain ⟨ri2, h5, h6⟩ := h.obj _ ob e4
            rw [e3] at h5; cases h5
            have := h6.blockLt hp
            omega
          · by_cases hq : q = id
            · subst hq
              obtain ⟨rj, hrj⟩ := k7 ob' f1
              rw [k3 rj hrj] at f2; cases f2
              obtain ⟨_, q2⟩ := g3 _ p' hrj f3
              rcases q2 with h3 | h3
              · obtain ⟨ri2, h5, h6⟩ := h.obj _ ob e4
                rw [e3] at h5; cases h5
                have := h6.blockLt hp
                omega
              · exact apart_mut_own c.ps ris ri p hap e1 hp (f4 ▸ h3)
            · rw [k2 q hq] at f2
              exact (hblk _ hb).2.1 q ob' ri' p' (k5 q ob' f1 hq) f2 f3 f4.symm
    refine ⟨val, _, ρ', rfl, fun d => RelAt.put hstep2 d ⟨resT id c.rs, resV id c.rs r2⟩ val ?_⟩
    refine g4 _ ρ' ?_ k3
    exact hG.imp (fun h => h) (fun h => h.1)

end Go.Vs
