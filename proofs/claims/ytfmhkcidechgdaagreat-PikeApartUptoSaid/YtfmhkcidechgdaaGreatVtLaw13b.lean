/- Value semantics, part 19b: what a call does to the state. -/
import Derived.Test.YtfmhkcidechgdaaGreatVtLaw13
set_option linter.unusedVariables false
namespace Go.Vt
open Go
variable {P : Program} {tb : Tab} {R : Type} {F0 M F F' : Nat → Prop} {W0 w w' : World} {ρ ρ' : Nat → Option RI} {s : St} {a : Act} {m : Nat → Nat → Option Value} {id : Nat}
theorem root_law (h : RelAt F0 M W0 F ρ s a w) {ur fr : Nat} {T : Ty} {v : T.den} {r : RI} {mrs : List RI} (hT : (∃ t, T = .vec t) ∨ ∃ t, T = .bx t) (hρ : ρ ur = some r) (hd : s.cont ur = none)
    (hr : TRep F w T v [rootVal T r] (r :: mrs)) (hf : ∀ q ∈ updIds fr (some (.cl T)), ol s.objs q = none) (hap : Apart (r :: mrs))
    (hb : ∀ b, Blk (r :: mrs) b → ¬ F b ∧ (W0.heap.size ≤ b ∨ M b) ∧ ∀ q c ri, s.cont q = some c → ρ q = some ri → ¬ ri.blk b) :
    ∃ ρ', (∀ q x, ρ q = some x → ρ' q = some x) ∧ RelAt F0 M W0 F ρ' (setNK s ur fr (.cl T) v) a w := by
  rcases hT with ⟨t, rfl⟩ | ⟨t, rfl⟩
  · obtain ⟨ri, e1, e2, ho⟩ := hr
    cases e1
    exact ⟨ρ, fun _ _ h => h, h.live ur r (.arr ⟨t, v⟩) hd hρ (ORep.pure0 ho) fun b hb' => hb b ⟨r, by simp, hb'⟩⟩
  · obtain ⟨ri, rs, p, ds, cells, el, e1, e2, hA, hsub, hh, hsz, hc, hr⟩ := hr
    cases e1
    have hρ' : ∀ (j : Nat) ri, mrs[j]? = some ri → extN ρ fr mrs (fr + j) = some ri := fun j ri hj => extN_at hj
    have ho := opn_law (ρ := extN ρ fr mrs) t v ds mrs fr hr hρ'
    have hfr : ∀ j, j < mrs.length → ol s.objs (fr + j) = none := fun j hj => hf _ (by
      show fr + j ∈ idsFrom fr (cnt t)
      rw [mem_idsFrom, ← ho.len]; omega)
    have h2 := adds_law h (k := fr) (cs := opnC t v fr) (ris := mrs) (by rw [opnC_length, ho.len]) hfr hap.2 (fun b hb' => hb b (by obtain ⟨ri, h1, h2⟩ := hb'; exact ⟨ri, by simp [h1], h2⟩)) ho.conts
    have hne : ¬ (fr ≤ ur ∧ ur < fr + mrs.length) := fun hc' => by
      have := h.fresh ur (by rw [show ur = fr + (ur - fr) by omega]; exact hfr _ (by omega))
      rw [hρ] at this; cases this
    have hlen : (opnC t v fr).length = mrs.length := by rw [opnC_length, ho.len]
    have hρu : extN ρ fr mrs ur = some r := by rw [extN_out hne]; exact hρ
    have h3 := h2.live ur r (.box ⟨opnT t fr, opnV t v fr⟩) (by rw [cont_putAll, if_neg (by rw [hlen]; exact hne)]; exact hd) hρu
      ⟨hsub, (opnT_facts t fr).2.2 ho.tree, p, ds, cells, el, hA, hh, by rw [(opnT_facts t fr).2.1]; exact hsz, hc, ho.rep⟩ (fun b hb' => by
        obtain ⟨g1, g2, g3⟩ := hb b ⟨r, by simp, hb'⟩
        refine ⟨g1, g2, fun q c ri hq h4 => ?_⟩
        rw [cont_putAll] at hq
        split at hq
        · rename_i hin
          have hlt : q - fr < mrs.length := by rw [← hlen]; omega
          have hri : extN ρ fr mrs q = some mrs[q - fr] := by
            have := hρ' (q - fr) _ (List.getElem?_eq_getElem hlt)
            rwa [show fr + (q - fr) = q by omega] at this
          rw [hri] at h4; cases h4
          exact fun hb2 => hap.1 b hb' ⟨_, List.getElem_mem hlt, hb2⟩
        · rename_i hout
          rw [extN_out (by rw [← hlen]; exact hout)] at h4
          exact g3 q c ri hq h4)
    refine ⟨extN ρ fr mrs, fun q x hq => ?_, h3.less (fun i => ?_) (fun q c hq => ?_) (fun q hq => ?_)⟩
    · rw [extN_out]
      · exact hq
      · intro hc'
        have := h.fresh q (by rw [show q = fr + (q - fr) by omega]; exact hfr _ (by omega))
        rw [hq] at this; cases this
    · show (putAll (s.setObj ur _) fr _).get i = _
      rw [get_putAll]
      show s.get i = (putAll s fr _).get i
      rw [get_putAll]
    · have hq' : (putAll (s.setObj ur (.live (.box ⟨opnT t fr, opnV t v fr⟩))) fr (opnC t v fr)).cont q = some c := hq
      rw [cont_putAll] at hq'
      rw [St.cont_setObj]
      split at hq'
      · rename_i hin
        rw [if_neg (fun e => by subst e; exact hne (by rw [← hlen]; exact hin)), cont_putAll, if_pos hin]; exact hq'
      · rename_i hout
        rw [St.cont_setObj] at hq'
        split at hq'
        · rename_i e; rw [if_pos e]; exact hq'
        · rename_i e; rw [if_neg e, cont_putAll, if_neg hout]; exact hq'
    · have hq' : ol (putAll (s.setObj ur (.live (.box ⟨opnT t fr, opnV t v fr⟩))) fr (opnC t v fr)).objs q = none := hq
      rw [ol_putAll] at hq'
      rw [ol_setObj]
      split at hq'
      · rename_i hin
        rw [if_neg (fun e => by subst e; exact hne (by rw [← hlen]; exact hin)), ol_putAll, if_pos hin]; exact hq'
      · rename_i hout
        rw [ol_setObj] at hq'
        split at hq'
        · cases hq'
        · rename_i e; rw [if_neg e, ol_putAll, if_neg hout]; exact hq'
theorem setO_ol {nt : Option NK} {v : ODen nt} {k q : Nat} (hq : q ∉ newIds k nt) (hnr : ∀ t, nt ≠ some (.raw t)) : ol (setO s k (k + 1) nt v).objs q = ol s.objs q := by
  cases nt with
  | none => rfl
  | some nk =>
    cases nk with
    | raw t => exact absurd rfl (hnr t)
    | cl T =>
      show ol (setNK s k (k + 1) (.cl T) v).objs q = _
      rw [setNK_new, ol_putAll, if_neg]
      intro hc
      apply hq
      show q ∈ idsFrom k (cnt T)
      rw [mem_idsFrom, ← opnC_length T v k]; exact hc
theorem call_law {Γ : Nat → List Ctr} (hΓ : CtrsOk P Γ) (h : RelAt F0 M W0 F ρ s a w) {f : Nat} {xs : List TV} {vals : List Value} {e : Eff R} (he : opCall Γ f xs id s = some e) (hr : RepL F (mem w) ρ xs vals)
    (hn : ∀ q ∈ newIds id e.nt, ol s.objs q = none) (hu : ∀ q ∈ updIds (id + 16) e.ut, ol s.objs q = none) :
    ∀ v, e.k.c = some v → Calls P f vals.toArray w fun en w' => ∃ val F' ρ', en = .returned val ∧ ∀ d, RelAt F0 M W0 F' ρ' (e.out d id v) (a.put d val) w' := by
  obtain ⟨c, vs, al, mo, ur, base, hc⟩ := opCall_some he
  obtain ⟨hmem, ha, hnd, hdis, hno, hmt, hfew, hur, hbase, rfl⟩ := hc
  intro v hv
  simp only [Cnd.map, Cnd.look] at hv hn hu
  cases hg : c.g vs with
  | none => rw [hg] at hv; cases hv
  | some r =>
    rw [hg] at hv
    obtain rfl := Option.some.inj hv
    obtain ⟨r1, r2⟩ := r
    have hFc : ∀ b, F b → (fun b => F b ∨ ∃ q ∈ al, ∃ c ri, s.cont q = some c ∧ ρ q = some ri ∧ ri.blk b) b := fun b hb => .inl hb
    obtain ⟨ris, hargs, hown, hal, hmut⟩ := args_law h (Fc := fun b => F b ∨ ∃ q ∈ al, ∃ c ri, s.cont q = some c ∧ ρ q = some ri ∧ ri.blk b) hFc c.ps xs vals ha hr (fun q hq ri b h1 h2 => by
      have : ∀ q ∈ al, ∃ c, s.cont q = some c := by
        obtain ⟨_, _, _, g, _⟩ := args_law h (Fc := fun _ => True) (fun _ _ => trivial) c.ps xs vals ha hr (fun _ _ _ _ _ _ => trivial)
        exact g
      obtain ⟨c', hc'⟩ := this q hq
      exact .inr ⟨q, hq, c', ri, hc', h1, h2⟩)
    have hap := own_apart h hown hnd
    have hlt : ∀ b, (F b ∨ ∃ q ∈ al, ∃ c ri, s.cont q = some c ∧ ρ q = some ri ∧ ri.blk b) → b < w.heap.size := fun b hb => by
      rcases hb with hb | ⟨q, hq, c', ri, h1, h2, h3⟩
      · exact h.lt b hb
      · obtain ⟨ri', h4, ho⟩ := h.cobj q c' h1
        rw [h2] at h4; cases h4
        exact ho.blkLt h3
    have hblt : ∀ b, Blk ris b → b < w.heap.size := fun b hb => by
      obtain ⟨q, c', rq, g1, g2, g3, g4⟩ := own_blk hown b hb
      obtain ⟨ri', h4, ho⟩ := h.cobj q c' g2
      rw [g3] at h4; cases h4
      exact ho.blkLt g4
    have hnF : ∀ b, Blk ris b → ¬ (F b ∨ ∃ q ∈ al, ∃ c ri, s.cont q = some c ∧ ρ q = some ri ∧ ri.blk b) := fun b hb => by
      obtain ⟨q, c', rq, g1, g2, g3, g4⟩ := own_blk hown b hb
      rintro (h1 | ⟨q', hq', c2, ri', e1, e2, e3⟩)
      · exact (h.cown q c' rq b g2 g3 g4).1 h1
      · have := h.csep q' q c2 c' ri' rq b e1 g2 e2 g3 e3 g4
        subst this
        exact hdis q' hq' g1
    have hcall := (hΓ f c hmem).1 vs (r1, r2) hg w _ vals ris hlt hargs hap hnF
    refine hcall.mono fun en w' ⟨val, Fn, mrs, rrs, e1, hkept, hFn, hres, hmr, hapo, hblo⟩ => ?_
    subst e1
    have hk := kills_law mo h
    have hkc : ∀ q c', (kills s mo).cont q = some c' → s.cont q = some c' ∧ q ∉ moRegs mo := fun q c' hq => by
      rw [kills_cont] at hq
      split at hq
      · cases hq
      · exact ⟨hq, by assumption⟩
    have hkf : ∀ q, ol s.objs q = none → ol (kills s mo).objs q = none := fun q hq => by
      rw [kills_ol, if_neg]
      · exact hq
      · intro hm
        have : ∃ c', s.cont q = some c' := by
          have key : ∀ {mo : List (Option Nat × Bool)} {ris : List RI}, OwnRs s ρ mo ris → q ∈ moRegs mo → ∃ c', s.cont q = some c' := by
            intro mo
            induction mo with
            | nil => intro _ _ hm; cases hm
            | cons x mo ih =>
              obtain ⟨o, b⟩ := x
              intro ris ⟨ri, rs, e, g1, g2⟩ hm
              simp only [moRegs, List.filterMap_cons] at hm
              cases o with
              | none => exact ih g2 hm
              | some q' =>
                rcases List.mem_cons.1 hm with rfl | hm
                · obtain ⟨c', _, g3, _⟩ := g1.part q rfl
                  exact ⟨c', g3⟩
                · exact ih g2 hm
          exact key hown hm
        obtain ⟨c', hc'⟩ := this
        rw [St.cont_iff, hq] at hc'; cases hc'
    obtain ⟨F1, hb1, hF1, hF1up, hall, hsc, hsf⟩ : ∃ F1, RelAt F0 M W0 F1 ρ base a w ∧ (∀ b, F b → F1 b) ∧
        (∀ b, F1 b → F b ∨ ∃ q ∈ al, ∃ c ri, s.cont q = some c ∧ ρ q = some ri ∧ ri.blk b) ∧
        ((∀ b, (F b ∨ ∃ q ∈ al, ∃ c ri, s.cont q = some c ∧ ρ q = some ri ∧ ri.blk b) → F1 b) ∨ (c.rs.all RM.flat = true ∧ c.ps.all PM.mutFlat = true)) ∧
        (∀ q c', base.cont q = some c' → ∃ c0, s.cont q = some c0 ∧ q ∉ moRegs mo) ∧ (∀ q, ol s.objs q = none → ol base.objs q = none) := by
      split at hbase
      · rename_i hfl
        simp only [Bool.and_eq_true] at hfl
        cases hbase
        exact ⟨F, hk, fun _ h => h, fun b hb => .inl hb, .inr hfl, fun q c' hq => ⟨c', hkc q c' hq⟩, hkf⟩
      · obtain ⟨F1, k⟩ := frzs_law al hbase hk
        refine ⟨F1, k.rel, k.up, fun b hb => ?_, .inl fun b hb => ?_, fun q c' hq => ?_, fun q hq => k.fresh q (hkf q hq)⟩
        · rcases k.low b hb with hb | ⟨q, hq, c', ri, h1, h2⟩
          · exact .inl hb
          · exact .inr ⟨q, hq, c', ri, (hkc q c' h1).1, h2⟩
        · rcases hb with hb | ⟨q, hq, c', ri, h1, h2, h3⟩
          · exact k.up b hb
          · exact k.all q hq c' ri b (by rw [kills_cont, if_neg (hdis q hq)]; exact h1) h2 h3
        · obtain ⟨c0, h0⟩ := k.cont q c' hq
          exact ⟨c0, hkc q c0 h0⟩
    have hother : ∀ b, Blk ris b → ∀ q c' ri, base.cont q = some c' → ρ q = some ri → ¬ ri.blk b := fun b hb q c' ri hq h2 h3 => by
      obtain ⟨c0, h0, hnm⟩ := hsc q c' hq
      obtain ⟨q', c2, rq, g1, g2, g3, g4⟩ := own_blk hown b hb
      have := h.csep q q' c0 c2 ri rq b h0 g2 h2 g3 h3 g4
      subst this
      exact hnm g1
    have hblk : ∀ b, Blk ris b → ¬ F1 b ∧ (∀ q c' ri, base.cont q = some c' → ρ q = some ri → ¬ ri.blk b) ∧ (b < W0.heap.size → M b) := fun b hb => by
      refine ⟨fun h1 => hnF b hb (hF1up b h1), hother b hb, fun hl => ?_⟩
      obtain ⟨q', c2, rq, g1, g2, g3, g4⟩ := own_blk hown b hb
      exact (h.cown q' c2 rq b g2 g3 g4).2.elim (fun h3 => absurd hl (by omega)) (fun hm => hm)
    have hw := hb1.world (Blk ris) hkept hblk
    have hwide := hw.widen Fn (fun b hb => by
      obtain ⟨g1, g2⟩ := hFn b hb
      rcases g1 with g1 | g1
      · refine ⟨g2, fun q c' ri h1 h2 h3 => ?_, .inl (Nat.le_trans h.kept.size g1)⟩
        obtain ⟨ri', h5, h6⟩ := hb1.cobj q c' h1
        rw [h2] at h5; cases h5
        have := h6.blkLt h3
        omega
      · refine ⟨g2, hother b g1, ?_⟩
        by_cases hl : b < W0.heap.size
        · exact .inr ((hblk b g1).2.2 hl)
        · exact .inl (by omega))
    have hG : (∀ b, ((F b ∨ ∃ q ∈ al, ∃ c ri, s.cont q = some c ∧ ρ q = some ri ∧ ri.blk b) ∨ Fn b) → (F1 b ∨ Fn b)) ∨ (c.rs.all RM.flat = true ∧ c.ps.all PM.mutFlat = true) := by
      rcases hall with h1 | h1
      · exact .inl fun b hb => hb.imp (h1 b) (fun h => h)
      · exact .inr h1
    have hback : ∀ b, (Blk ris b ∨ w.heap.size ≤ b) → ¬ Fn b → ¬ (F1 b ∨ Fn b) ∧ (W0.heap.size ≤ b ∨ M b) ∧ ∀ q c' ri, base.cont q = some c' → ρ q = some ri → ¬ ri.blk b := fun b hb hfn => by
      rcases hb with hb | hb
      · refine ⟨fun h1 => h1.elim (hblk b hb).1 hfn, ?_, hother b hb⟩
        by_cases hl : b < W0.heap.size
        · exact .inr ((hblk b hb).2.2 hl)
        · exact .inl (by omega)
      · refine ⟨fun h1 => h1.elim (fun h2 => by have := hb1.lt b h2; omega) hfn, .inl (Nat.le_trans h.kept.size hb), fun q c' ri h1 h2 h3 => ?_⟩
        obtain ⟨ri', h5, h6⟩ := hb1.cobj q c' h1
        rw [h2] at h5; cases h5
        have := h6.blkLt h3
        omega
    rw [List.append_assoc, Apart.append] at hapo
    obtain ⟨hapr, hapmr, hapx⟩ := hapo
    obtain ⟨hapm, hapres, hapmx⟩ := Apart.append.1 hapmr
    have hρ1 : ∀ (j : Nat) ri, rrs[j]? = some ri → extN ρ id rrs (id + j) = some ri := fun j ri hj => extN_at hj
    obtain ⟨hrv, hro⟩ := res_law (ρ := extN ρ id rrs) (id := id) hno (Res_to (hG.imp (fun h => h) fun h => h.1) hres) hρ1
    have hbr : ∀ b, Blk rrs b → ¬ (F1 b ∨ Fn b) ∧ (W0.heap.size ≤ b ∨ M b) ∧ ∀ q c' ri, base.cont q = some c' → ρ q = some ri → ¬ ri.blk b := fun b hb => by
      obtain ⟨g1, g2⟩ := hblo b (Blk.append.2 (.inr hb))
      exact hback b g2.symm g1
    obtain ⟨hrl, hr1⟩ : (∀ j, j < rrs.length → ol s.objs (id + j) = none ∧ id + j ∈ newIds id (ownTy c.rs) ∧ rrs.length ≤ nkCnt (ownTy c.rs)) ∧ RelAt F0 M W0 (fun k => F1 k ∨ Fn k) (extN ρ id rrs) (setO base id (id + 1) (ownTy c.rs) (ownV c.rs r2)) a w' := by
      revert hro hn hfew
      generalize ownV c.rs r2 = ov
      revert ov
      generalize ownTy c.rs = ot
      intro ov hfew hn hro
      cases ot with
      | none =>
        have : rrs = [] := hro
        subst this
        refine ⟨fun j hj => by simp at hj, ?_⟩
        have : extN ρ id [] = ρ := by funext q; exact extN_out (by simp only [List.length_nil]; omega)
        rw [this]
        exact hwide
      | some nk =>
        cases nk with
        | raw t => exact hro.elim
        | cl T =>
          obtain ⟨hl, hcs⟩ := hro
          have hmem : ∀ j, j < rrs.length → id + j ∈ newIds id (some (.cl T)) := fun j hj => by
            show id + j ∈ idsFrom id (cnt T)
            rw [mem_idsFrom]; omega
          refine ⟨fun j hj => ⟨hn _ (hmem j hj), hmem j hj, by show _ ≤ cnt T; omega⟩, ?_⟩
          show RelAt _ _ _ _ _ (setNK base id (id + 1) (.cl T) ov) a w'
          rw [setNK_new]
          exact adds_law hwide (by rw [opnC_length, hl]) (fun j hj => hsf _ (hn _ (hmem j hj))) hapres hbr hcs
    have hnr : ∀ t, ownTy c.rs ≠ some (.raw t) := by
      have : ∀ (rs : List RM) t, ownTy rs ≠ some (.raw t) := by
        intro rs
        induction rs with
        | nil => intro t h; cases h
        | cons r rs ih => intro t h; cases r with
          | val u => exact ih t h
          | own u => simp [ownTy] at h
      exact this c.rs
    obtain ⟨ρ2, hle2, hr2⟩ : ∃ ρ2, (∀ q x, extN ρ id rrs q = some x → ρ2 q = some x) ∧ RelAt F0 M W0 (fun k => F1 k ∨ Fn k) ρ2 (setO (setO base id (id + 1) (ownTy c.rs) (ownV c.rs r2)) ur (id + 16) (mutTy c.ps) r1) a w' := by
      have hmr' : MutRep _ _ (mutTy c.ps) r1 (mutRI c.ps ris) mrs := hmr
      have hmut' := hmut
      have hu' := hu
      have hur' := hur
      have hfm := fun T => mutFlat_of c.ps T
      clear hmr hmut hu hur
      revert hmr' hmut' hu' hur' hfm
      generalize r1 = ov
      revert ov
      generalize hmt' : mutTy c.ps = mt
      intro r1 hmr hmut hu hur hfm
      cases mt with
      | none => exact ⟨_, fun _ _ h => h, hr1⟩
      | some nk =>
        cases nk with
        | raw t => exact hmr.elim
        | cl T =>
          obtain ⟨r, er, hT⟩ := hmr
          obtain ⟨r', T', m1, m2, m3, m4, ⟨c0, m5⟩, m6⟩ := (hmut ur (by simpa using hur) rfl).ex
          rw [er] at m1; cases m1
          rw [hmt'] at m2
          cases m2
          rw [er] at hapr hapx
          have hrin : Blk ris = Blk ris := rfl
          have hrm := mutRI_mem _ _ _ er
          have hrb : ∀ b, r.blk b → Blk ris b := fun b hb => ⟨r, hrm, hb⟩
          have hnid : ¬ (id ≤ ur ∧ ur < id + rrs.length) := fun hc => by
            have h1 := (hrl (ur - id) (by omega)).1
            rw [show id + (ur - id) = ur by omega] at h1
            rw [St.cont_iff, h1] at m5; cases m5
          have hbd : base.cont ur = none := by
            cases hb : base.cont ur with
            | none => rfl
            | some c' => obtain ⟨_, _, hh⟩ := hsc ur c' hb; exact absurd m4 hh
          have hcont : ∀ q c', (setO base id (id + 1) (ownTy c.rs) (ownV c.rs r2)).cont q = some c' → (∃ j ri, q = id + j ∧ rrs[j]? = some ri ∧ extN ρ id rrs q = some ri) ∨ (base.cont q = some c' ∧ extN ρ id rrs q = ρ q) := fun q c' hq => by
            by_cases hin : id ≤ q ∧ q < id + rrs.length
            · have hlt : q - id < rrs.length := by omega
              exact .inl ⟨q - id, rrs[q - id], by omega, List.getElem?_eq_getElem hlt, by
                have := hρ1 (q - id) _ (List.getElem?_eq_getElem hlt)
                rwa [show id + (q - id) = q by omega] at this⟩
            · right
              refine ⟨?_, extN_out hin⟩
              have hni : q ∉ newIds id (ownTy c.rs) := fun hm => by
                have : ∀ {nt : Option NK} {u : ODen nt}, ResOwn (fun b => F1 b ∨ Fn b) w' (extN ρ id rrs) id nt u rrs → (∀ t, nt ≠ some (.raw t)) → q ∈ newIds id nt → id ≤ q ∧ q < id + rrs.length := by
                  intro nt u hro hnr hm
                  cases nt with
                  | none => cases hm
                  | some nk =>
                    cases nk with
                    | raw t => exact absurd rfl (hnr t)
                    | cl T =>
                      have hm' : q ∈ idsFrom id (cnt T) := hm
                      rw [mem_idsFrom, ← hro.1] at hm'
                      exact hm'
                exact hin (this hro hnr hm)
              have := setO_ol (s := base) (v := ownV c.rs r2) hni hnr
              rw [St.cont_iff] at hq ⊢
              rw [← this]; exact hq
          refine root_law hr1 (ur := ur) (fr := id + 16) (T := T) (v := r1) (r := r) (mrs := mrs) m6 (by rw [extN_out hnid]; exact m3) ?_ ?_ (fun q hq => ?_) ?_ (fun b hb => ?_)
          · cases hb : (setO base id (id + 1) (ownTy c.rs) (ownV c.rs r2)).cont ur with
            | none => rfl
            | some c' =>
              rcases hcont ur c' hb with ⟨j, ri, e, hj, _⟩ | ⟨h1, _⟩
              · have : j < rrs.length := by
                  rcases Nat.lt_or_ge j rrs.length with h2 | h2
                  · exact h2
                  · rw [List.getElem?_eq_none h2] at hj; cases hj
                exact absurd ⟨by omega, by omega⟩ hnid
              · rw [hbd] at h1; cases h1
          · refine TRep.to _ _ _ _ ?_ hT
            exact hG.imp (fun h => h) (fun h => hfm T h.2 rfl)
          · have h1 := hu q hq
            rw [setO_ol _ hnr]
            · exact hsf q h1
            · intro hm
              have hq2 : q ∈ idsFrom (id + 16) (match T with | .bx t => cnt t | _ => 0) := by
                rcases m6 with ⟨t, rfl⟩ | ⟨t, rfl⟩
                · cases hq
                · exact hq
              rw [mem_idsFrom] at hq2
              have : ∀ {nt : Option NK}, (∀ t, nt ≠ some (.raw t)) → nkCnt nt ≤ 16 → q ∈ newIds id nt → q < id + 16 := by
                intro nt hnr hf hm
                cases nt with
                | none => cases hm
                | some nk =>
                  cases nk with
                  | raw t => exact absurd rfl (hnr t)
                  | cl T =>
                    have hm' : q ∈ idsFrom id (cnt T) := hm
                    rw [mem_idsFrom] at hm'
                    have : cnt T ≤ 16 := hf
                    omega
              have := this hnr hfew hm
              omega
          · exact ⟨fun b hb hb2 => hapx b (by exact ⟨r, by simp, hb⟩) (Blk.append.2 (.inl hb2)), hapm⟩
          · have hb0 : (Blk ris b ∨ w.heap.size ≤ b) ∧ ¬ Fn b ∧ ¬ Blk rrs b := by
              obtain ⟨ri, hm, hbb⟩ := hb
              rcases List.mem_cons.1 hm with rfl | hm
              · exact ⟨.inl (hrb b hbb), (hblo b (Blk.append.2 (.inl (Blk.append.2 (.inl (by rw [er]; exact ⟨ri, by simp, hbb⟩)))))).1, fun h2 => hapx b ⟨ri, by simp, hbb⟩ (Blk.append.2 (.inr h2))⟩
              · obtain ⟨g1, g2⟩ := hblo b (Blk.append.2 (.inl (Blk.append.2 (.inr ⟨ri, hm, hbb⟩))))
                exact ⟨g2.symm, g1, fun h2 => hapmx b ⟨ri, hm, hbb⟩ h2⟩
            obtain ⟨g1, g2, g3⟩ := hback b hb0.1 hb0.2.1
            refine ⟨g1, g2, fun q c' ri hq h1 hb2 => ?_⟩
            rcases hcont q c' hq with ⟨j, ri', e, hj, h3⟩ | ⟨h2, h3⟩
            · rw [h3] at h1; cases h1
              exact hb0.2.2 ⟨ri, List.mem_of_getElem? hj, hb2⟩
            · rw [h3] at h1
              exact g3 q c' ri h2 h1 hb2
    refine ⟨val, _, ρ2, rfl, fun d => RelAt.put hr2 d ⟨resT id c.rs, resV id c.rs r2⟩ val ?_⟩
    exact RepV.mono (fun _ h => h) (fun _ _ _ _ h => h) hle2 _ _ _ hrv
end Go.Vt
