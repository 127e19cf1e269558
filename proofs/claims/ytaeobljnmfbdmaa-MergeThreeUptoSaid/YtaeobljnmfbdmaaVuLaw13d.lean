/- Value semantics, part 19d: the law of a call. -/
import Derived.Test.YtaeobljnmfbdmaaVuLaw13b
set_option linter.unusedVariables false
namespace Go.Vu
open Go
variable {P : Program} {tb : Tab} {R : Type} {F0 : Bs} {M F F' : Nat → Prop} {W0 w w' : World} {ρ ρ' ρp : RK → Option RI} {s : St} {a : Act} {m : Nat → Nat → Option Value} {id : Nat}
theorem kill1_pol {o : MO} {p : Nat} (hp : p ∉ o.pl) : pol (kill1 s o).pls p = pol s.pls p := by
 cases o with
 | no => rfl
 | reg r f => rfl
 | po p' v =>
  simp only [MO.pl, List.mem_singleton] at hp
  simp only [kill1]
  split
  ·rw [pol_setPl, if_neg (Ne.symm hp)]
  ·rfl
 | pool ps =>
  have : ∀ (ps : List Nat) {s : St}, p ∉ ps → pol (deadPl s ps).pls p = pol s.pls p := by
   intro ps
   induction ps with
   | nil => intro s _; rfl
   | cons k ps ih =>
    intro s hp
    simp only [List.mem_cons, not_or] at hp
    simp only [deadPl]
    split
    ·rw [ih hp.2, pol_setPl, if_neg (Ne.symm hp.1)]
    ·exact ih hp.2
  exact this ps hp
theorem kills_pol_out : ∀ (mo : List MO) {s : St} {p : Nat}, p ∉ moPls mo → pol (kills s mo).pls p = pol s.pls p
 | [], _, _, _ => rfl
 | o :: mo, s, p, hp => by
  simp only [moPls, List.flatMap_cons, List.mem_append, not_or] at hp
  rw [kills, kills_pol_out mo (by exact hp.2), kill1_pol hp.1]
theorem kills_pol : ∀ (mo : List MO) {s : St} {p : Nat} {q : PL} {v : Option (Nat × Nat × Nat)}, noDup (moPls mo) = true → MO.po p v ∈ mo → pol s.pls p = some q → pol (kills s mo).pls p = some ⟨q.t, hset q.l v none⟩
 | [], _, _, _, _, _, hm, _ => by cases hm
 | o :: mo, s, p, q, v, hd, hm, hq => by
  obtain ⟨h1, h2⟩ := noDup_append (a := o.pl) (b := moPls mo) (by simpa [moPls] using hd)
  rcases List.mem_cons.1 hm with rfl | hm
  ·rw [kills, kills_pol_out mo (h1 p (by simp [MO.pl]))]
   simp only [kill1, hq, pol_setPl, if_true]
  ·have hp : p ∈ moPls mo := List.mem_flatMap.2 ⟨_, hm, by simp [MO.pl]⟩
   rw [kills, kills_pol mo h2 hm (by rw [kill1_pol (fun hc => h1 p hc hp)]; exact hq)]
theorem cut_blk {ri : RI} {v1 v2 : Nat} {A : Option Addr} {c : Nat} (hs : ri.sub = []) (b : Nat) : (cutRI ri v1 v2 A c).blk b ↔ ri.blk b := by
 constructor
 ·intro hb
  obtain ⟨p, hA, rfl⟩ := blk_nosub rfl hb
  simp only [cutRI, Option.map_eq_some_iff] at hA
  obtain ⟨p0, hp, rfl⟩ := hA
  exact (show ri.blk p0.1 from RI.blkA hp)
 ·intro hb
  obtain ⟨p, hA, rfl⟩ := blk_nosub hs hb
  exact .inl ⟨(p.1, p.2 + v1 * ri.sz), by simp [cutRI, hA], rfl⟩
theorem setPl_pty {p p' : Nat} {t : Ty} {l : List (Option (List t.den))} (hq : pty s p = some t) : pty (s.setPl p ⟨t, l⟩) p' = pty s p' := by
 unfold pty at hq ⊢
 rw [pol_setPl]
 by_cases e : p = p'
 ·subst e; rw [if_pos rfl]; exact hq.symm
 ·rw [if_neg e]
theorem pty_of {p : Nat} {q : PL} (h : pol s.pls p = some q) : pty s p = some q.t := by unfold pty; rw [h]
theorem deadPl_pty : ∀ (ps : List Nat) {s : St} {p : Nat}, pty (deadPl s ps) p = pty s p
 | [], _, _ => rfl
 | k :: ps, s, p => by
  simp only [deadPl]
  split
  ·rename_i q hq
   rw [deadPl_pty ps, setPl_pty (pty_of hq)]
  ·exact deadPl_pty ps
theorem kill1_pty {o : MO} {p : Nat} : pty (kill1 s o) p = pty s p := by
 cases o with
 | no => rfl
 | reg r f => rfl
 | po p' v =>
  simp only [kill1]
  split
  ·rename_i q hq; exact setPl_pty (pty_of hq)
  ·rfl
 | pool ps => exact deadPl_pty ps
theorem kills_pty : ∀ (mo : List MO) {s : St} {p : Nat}, pty (kills s mo) p = pty s p
 | [], _, _ => rfl
 | o :: mo, s, p => by rw [kills, kills_pty mo, kill1_pty]
theorem call_law {Γ : Nat → List Ctr} (hΓ : CtrsOk P Γ) (h : RelAt F0 M W0 F ρ s a w) {f : Nat} {xs : List TV} {vals : List Value} {e : Eff R} (he : opCall Γ f xs id s = some e) (hr : RepL F (mem w) ρ xs vals)
  (hn : ∀ q ∈ newIds id e.nt, ol s.objs q = none) (hu : ∀ q ∈ updIds (id + 16) e.ut, ol s.objs q = none) :
  ∀ v, e.k.c = some v → Calls P f vals.toArray w fun en w' => ∃ val F' ρ', en = .returned val ∧ ∀ d, RelAt F0 M W0 F' ρ' (e.out d id v) (a.put d val) w' := by
 obtain ⟨c, vs, al, mo, ok, up, base, hc⟩ := opCall_some he
 obtain ⟨hmem, ha, hnd, hnd2, hdis, hno, hmt, hfew, hpls, halone, hup, hup0, hbase, rfl⟩ := hc
 intro v hv
 simp only [Cnd.map, Cnd.look, Cnd.bind, Cnd.test] at hv hn hu
 cases ok with
 | false => simp at hv
 | true =>
 simp only [cond_true, Option.bind_some] at hv
 cases hg : c.g vs with
 | none => rw [hg] at hv; cases hv
 | some r =>
  rw [hg] at hv
  obtain rfl := Option.some.inj hv
  obtain ⟨r1, r2⟩ := r
  have hFc : ∀ b, F b → (fun b => F b ∨ ∃ Q ∈ al, ∃ k c ri, Q.has k ∧ s.cont k = some c ∧ ρ k = some ri ∧ ri.blk b) b := fun b hb => .inl hb
  obtain ⟨ris, hargs, hown, hmut⟩ := args_law h (ρp := plR ρ) (fun _ _ => rfl) (Fc := fun b => F b ∨ ∃ Q ∈ al, ∃ k c ri, Q.has k ∧ s.cont k = some c ∧ ρ k = some ri ∧ ri.blk b) hFc c.ps xs vals ha hr (fun Q hQ k c' ri b h1 h2 h3 h4 => .inr ⟨Q, hQ, k, c', ri, h1, h2, h3, h4⟩)
  have hap := own_apart h hown hnd hnd2
  have hlt : ∀ b, (F b ∨ ∃ Q ∈ al, ∃ k c ri, Q.has k ∧ s.cont k = some c ∧ ρ k = some ri ∧ ri.blk b) → b < w.heap.size := fun b hb => by
   rcases hb with hb | ⟨Q, hQ, k, c', ri, _, h1, h2, h3⟩
   ·exact h.lt b hb
   ·obtain ⟨ri', h4, ho⟩ := h.cobj k c' h1
    rw [h2] at h4; cases h4
    exact ho.blkLt h3
  have hnF : ∀ b, Blk ris b → ¬ (F b ∨ ∃ Q ∈ al, ∃ k c ri, Q.has k ∧ s.cont k = some c ∧ ρ k = some ri ∧ ri.blk b) := fun b hb => by
   obtain ⟨o, k, c', rq, g0, g1, g2, g3, g4⟩ := own_blk hown b hb
   rintro (h1 | ⟨Q, hQ, k', c2, ri', e0, e1, e2, e3⟩)
   ·exact (h.cown k c' rq b g2 g3 g4).1 h1
   ·have := h.csep k' k c2 c' ri' rq b e1 g2 e2 g3 e3 g4
    subst this
    exact off_not (hdis Q hQ) e0 g0 g1
  have hcall := (hΓ f c hmem).1 vs (r1, r2) hg w _ ρ vals ris hlt hargs hap hnF
  refine hcall.mono fun en w' ⟨val, Fn, mrs, rrs, e1, hkept, hFn, hres, hmr, hapo, hblo⟩ => ?_
  subst e1
  have hk := kills_law mo h
  have hkf : ∀ q, ol s.objs q = none → ol (kills s mo).objs q = none := fun q hq => kills_fresh mo (fun f hm => by
   have key : ∀ {mo : List MO} {ris : List RI}, OwnRs s ρ mo ris → MO.reg q f ∈ mo → ∃ c', s.cont q = some c' := by
    intro mo
    induction mo with
    | nil => intro _ _ hm; cases hm
    | cons x mo ih =>
     intro ris ⟨ri, rs, e, g1, g2⟩ hm
     rcases List.mem_cons.1 hm with rfl | hm
     ·exact g1.live q f rfl
     ·exact ih g2 hm
   obtain ⟨c', hc'⟩ := key hown hm
   rw [St.cont_iff, hq] at hc'; cases hc') hq
  obtain ⟨F1, hb1, hF1, hF1up, hall, hsc, hsf, hspl⟩ : ∃ F1, RelAt F0 M W0 F1 ρ base a w ∧ (∀ b, F b → F1 b) ∧
    (∀ b, F1 b → F b ∨ ∃ Q ∈ al, ∃ k c ri, Q.has k ∧ s.cont k = some c ∧ ρ k = some ri ∧ ri.blk b) ∧
    ((∀ b, (F b ∨ ∃ Q ∈ al, ∃ k c ri, Q.has k ∧ s.cont k = some c ∧ ρ k = some ri ∧ ri.blk b) → F1 b) ∨ (c.rs.all RM.flat = true ∧ c.ps.all PM.mutFlat = true)) ∧
    (∀ k c', base.cont k = some c' → (∃ c0, s.cont k = some c0) ∧ ∀ o ∈ mo, ¬ o.has k) ∧ (∀ q, ol s.objs q = none → ol base.objs q = none) ∧ base.pls = (kills s mo).pls := by
   split at hbase
   ·rename_i hfl
    simp only [Bool.and_eq_true] at hfl
    cases hbase
    exact ⟨F, hk, fun _ h => h, fun b hb => .inl hb, .inr hfl, fun k c' hq => ⟨⟨c', ((kills_cont mo).1 hq).1⟩, ((kills_cont mo).1 hq).2⟩, hkf, rfl⟩
   ·obtain ⟨F1, k⟩ := frzs_law al hbase hk
    refine ⟨F1, k.rel, k.up, fun b hb => ?_, .inl fun b hb => ?_, fun q c' hq => ?_, fun q hq => k.fresh q (hkf q hq), k.pls⟩
    ·rcases k.low b hb with hb | ⟨Q, hQ, q, c', ri, h0, h1, h2⟩
     ·exact .inl hb
     ·exact .inr ⟨Q, hQ, q, c', ri, h0, ((kills_cont mo).1 h1).1, h2⟩
    ·rcases hb with hb | ⟨Q, hQ, q, c', ri, h0, h1, h2, h3⟩
     ·exact k.up b hb
     ·exact k.all Q hQ q c' ri b h0 ((kills_cont mo).2 ⟨h1, fun o ho => off_not (hdis Q hQ) h0 ho⟩) h2 h3
    ·obtain ⟨c0, h0⟩ := k.cont q c' hq
     exact ⟨⟨c0, ((kills_cont mo).1 h0).1⟩, ((kills_cont mo).1 h0).2⟩
  have hother : ∀ b, Blk ris b → ∀ q c' ri, base.cont q = some c' → ρ q = some ri → ¬ ri.blk b := fun b hb q c' ri hq h2 h3 => by
   obtain ⟨⟨c0, h0⟩, hnm⟩ := hsc q c' hq
   obtain ⟨o, q', c2, rq, g0, g1, g2, g3, g4⟩ := own_blk hown b hb
   have := h.csep q q' c0 c2 ri rq b h0 g2 h2 g3 h3 g4
   subst this
   exact hnm o g0 g1
  have hblk : ∀ b, Blk ris b → ¬ F1 b ∧ (∀ q c' ri, base.cont q = some c' → ρ q = some ri → ¬ ri.blk b) ∧ (b < W0.heap.size → M b) := fun b hb => by
   refine ⟨fun h1 => hnF b hb (hF1up b h1), hother b hb, fun hl => ?_⟩
   obtain ⟨o, q', c2, rq, g0, g1, g2, g3, g4⟩ := own_blk hown b hb
   exact (h.cown q' c2 rq b g2 g3 g4).2.elim (fun h3 => absurd hl (by omega)) (fun hm => hm)
  have hw := hb1.world (Blk ris) hkept hblk
  have hwide := hw.widen Fn (fun b hb => by
   obtain ⟨g1, g2⟩ := hFn b hb
   rcases g1 with g1 | g1
   ·refine ⟨g2, fun q c' ri h1 h2 h3 => ?_, .inl (Nat.le_trans h.kept.size g1)⟩
    obtain ⟨ri', h5, h6⟩ := hb1.cobj q c' h1
    rw [h2] at h5; cases h5
    have := h6.blkLt h3
    omega
   ·refine ⟨g2, hother b g1, ?_⟩
    by_cases hl : b < W0.heap.size
    ·exact .inr ((hblk b g1).2.2 hl)
    ·exact .inl (by omega))
  have hG : (∀ b, ((F b ∨ ∃ Q ∈ al, ∃ k c ri, Q.has k ∧ s.cont k = some c ∧ ρ k = some ri ∧ ri.blk b) ∨ Fn b) → (F1 b ∨ Fn b)) ∨ (c.rs.all RM.flat = true ∧ c.ps.all PM.mutFlat = true) := by
   rcases hall with h1 | h1
   ·exact .inl fun b hb => hb.imp (h1 b) (fun h => h)
   ·exact .inr h1
  have hback : ∀ b, (Blk ris b ∨ w.heap.size ≤ b) → ¬ Fn b → ¬ (F1 b ∨ Fn b) ∧ (W0.heap.size ≤ b ∨ M b) ∧ ∀ q c' ri, base.cont q = some c' → ρ q = some ri → ¬ ri.blk b := fun b hb hfn => by
   rcases hb with hb | hb
   ·refine ⟨fun h1 => h1.elim (hblk b hb).1 hfn, ?_, hother b hb⟩
    by_cases hl : b < W0.heap.size
    ·exact .inr ((hblk b hb).2.2 hl)
    ·exact .inl (by omega)
   ·refine ⟨fun h1 => h1.elim (fun h2 => by have := hb1.lt b h2; omega) hfn, .inl (Nat.le_trans h.kept.size hb), fun q c' ri h1 h2 h3 => ?_⟩
    obtain ⟨ri', h5, h6⟩ := hb1.cobj q c' h1
    rw [h2] at h5; cases h5
    have := h6.blkLt h3
    omega
  rw [List.append_assoc, Apart.append] at hapo
  obtain ⟨hapr, hapmr, hapx⟩ := hapo
  obtain ⟨hapm, hapres, hapmx⟩ := Apart.append.1 hapmr
  have hbr : ∀ b, Blk rrs b → ¬ (F1 b ∨ Fn b) ∧ (W0.heap.size ≤ b ∨ M b) ∧ ∀ q c' ri, base.cont q = some c' → ρ q = some ri → ¬ ri.blk b := fun b hb => by
   obtain ⟨g1, g2⟩ := hblo b (Blk.append.2 (.inr hb))
   exact hback b g2.symm g1
  have hplsb : plsOk base (rPls c.rs) = true := by
   simp only [plsOk, Bool.and_eq_true] at hpls ⊢
   refine ⟨hpls.1, List.all_eq_true.2 fun p hp => ?_⟩
   have h1 := List.all_eq_true.1 hpls.2 p hp
   simp only [decide_eq_true_eq] at h1 ⊢
   have e1 : pty base p.1 = pty (kills s mo) p.1 := by unfold pty; rw [hspl]
   have : pty base p.1 = pty s p.1 := e1.trans (kills_pty mo)
   rw [this]; exact h1
  obtain ⟨ρ1, hr1⟩ := res_state (id := id) hwide hno (Res_to (hG.imp (fun h => h) fun h => h.1) hres) (fun q hq => hsf q (hn q hq)) hplsb hapres hbr
  obtain ⟨ρ2, hle2, hr2⟩ : ∃ ρ2, (∀ q x, ρ1 q = some x → ρ2 q = some x) ∧ RelAt F0 M W0 (fun k => F1 k ∨ Fn k) ρ2 (setO (setO base id (id + 1) (ownTy c.rs) (ownV c.rs r2)) up.ur (id + 16) up.ut (up.f r1)) a w' := by
   by_cases hnone : mutTy c.ps = none
   ·rw [setO_none (hup0 hnone)]
    exact ⟨ρ1, fun _ _ h => h, hr1.rel⟩
   ·have hsome : (mutTy c.ps).isSome = true := by
     cases h0 : mutTy c.ps with
     | none => exact absurd h0 hnone
     | some nk => rfl
    obtain ⟨r, er, hma⟩ := hmut up (hup hsome) hsome
    have hrm := mutRI_mem _ _ _ er
    have hrb : ∀ b, r.blk b → Blk ris b := fun b hb => ⟨r, hrm, hb⟩
    have hfm := fun T => mutFlat_of c.ps T
    have hpn : rPls c.rs = [] := halone.resolve_right hnone
    rw [er] at hapr hapx hmr
    have hb0 : ∀ b, Blk (r :: mrs) b → (Blk ris b ∨ w.heap.size ≤ b) ∧ ¬ Fn b ∧ ¬ Blk rrs b := fun b hb => by
     obtain ⟨ri, hm, hbb⟩ := hb
     rcases List.mem_cons.1 hm with rfl | hm
     ·exact ⟨.inl (hrb b hbb), (hblo b (Blk.append.2 (.inl (Blk.append.2 (.inl (by rw [er]; exact ⟨ri, by simp, hbb⟩)))))).1, fun h2 => hapx b ⟨ri, by simp, hbb⟩ (Blk.append.2 (.inr h2))⟩
     ·obtain ⟨g1, g2⟩ := hblo b (Blk.append.2 (.inl (Blk.append.2 (.inr ⟨ri, hm, hbb⟩))))
      exact ⟨g2.symm, g1, fun h2 => hapmx b ⟨ri, hm, hbb⟩ h2⟩
    have hsep : ∀ b, Blk (r :: mrs) b → ¬ (F1 b ∨ Fn b) ∧ (W0.heap.size ≤ b ∨ M b) ∧ ∀ q c' ri, (setO base id (id + 1) (ownTy c.rs) (ownV c.rs r2)).cont q = some c' → ρ1 q = some ri → ¬ ri.blk b := fun b hb => by
     obtain ⟨h1, h2, h3⟩ := hb0 b hb
     obtain ⟨g1, g2, g3⟩ := hback b h1 h2
     refine ⟨g1, g2, fun q c' ri hq hq1 hb2 => ?_⟩
     rcases hr1.cont q c' hq with h4 | ⟨ri', h4, h5⟩
     ·obtain ⟨ri', h6, _⟩ := hb1.cobj q c' h4
      have := hr1.le _ _ h6
      rw [hq1] at this; cases this
      exact g3 q c' ri h4 h6 hb2
     ·rw [hq1] at h4; cases h4
      exact h3 (h5 b hb2)
    revert hmr hma hfm
    have hu' : ∀ q ∈ updIds (id + 16) up.ut, ol s.objs q = none := hu
    revert hu'
    generalize up = u
    revert u
    generalize r1 = ov
    revert ov
    generalize mutTy c.ps = mt
    intro r1 u hu hmr hma hfm
    cases hma with
    | reg T q r hrq hm hl hT =>
     have hdead : ∀ c', base.cont q ≠ some c' := fun c' hc' => by
      obtain ⟨_, hh⟩ := hsc q c' hc'
      simp only [moRegs, List.mem_filterMap] at hm
      obtain ⟨o, h1, h2⟩ := hm
      cases o with
      | reg q' f => cases h2; exact hh _ h1 rfl
      | no => cases h2
      | po p v => cases h2
      | pool ps => cases h2
     have hTr : TRep (fun b => F1 b ∨ Fn b) w' (plR ρ1) T r1 [rootVal T r] (r :: mrs) := by
      obtain ⟨r', e, h1⟩ := hmr
      cases e
      have h2 := TRep.to (G' := fun b => F1 b ∨ Fn b) _ _ _ _ (hG.imp (fun h => h) (fun h => hfm T h.2 rfl)) h1
      have : ∀ (t : Ty) (v : t.den) (cs : List Value) (ris : List RI), TRep (fun b => F1 b ∨ Fn b) w' (plR ρ) t v cs ris → TRep (fun b => F1 b ∨ Fn b) w' (plR ρ1) t v cs ris := fun t v cs ris ht => by
       have := shV_tree (bs := fun _ => 0) (ρ := plR ρ) (ρ' := plR ρ1) (fun p i x hx => hr1.le _ _ hx) t v cs ris ht
       rwa [shV_zero] at this
      exact this _ _ _ _ h2
     refine root_law hr1.rel (ur := q) (fr := id + 16) (T := T) (v := r1) (r := r) (mrs := mrs) hT (hr1.le _ _ hrq) ?_ hTr (fun q' hq' => ?_) ⟨fun b hb hb2 => hapx b ⟨r, by simp, hb⟩ (Blk.append.2 (.inl hb2)), hapm⟩ hsep
     ·cases hb : (setO base id (id + 1) (ownTy c.rs) (ownV c.rs r2)).cont q with
      | none => rfl
      | some c' =>
       exfalso
       rcases hr1.cont q c' hb with h4 | ⟨ri', h4, h5⟩
       ·exact hdead c' h4
       ·-- its blocks are both the argument's and the results'
        obtain ⟨c0, hl⟩ := hl
        have hqn : q ∈ newIds id (ownTy c.rs) := by
         by_cases hq : q ∈ newIds id (ownTy c.rs)
         ·exact hq
         ·exfalso
          have := hr1.ol q hq
          rw [St.cont_iff] at hb
          rw [this] at hb
          exact hdead c' (by rw [St.cont_iff]; exact hb)
        rw [St.cont_iff, hn q hqn] at hl
        cases hl
     ·have h1 := hu q' hq'
      rw [hr1.ol]
      ·exact hsf q' h1
      ·intro hm'
       have hq2 : q' ∈ idsFrom (id + 16) (match T with | .bx t => cnt t | _ => 0) := by
        rcases hT with ⟨t, rfl⟩ | ⟨t, rfl⟩
        ·cases hq'
        ·exact hq'
       rw [mem_idsFrom] at hq2
       have : ∀ {nt : Option NK}, (∀ t, nt ≠ some (.raw t)) → (∀ t, nt ≠ some (.pl t)) → nkCnt nt ≤ 16 → q' ∈ newIds id nt → q' < id + 16 := by
        intro nt hnr hnp hf hm
        cases nt with
        | none => cases hm
        | some nk =>
         cases nk with
         | raw t => exact absurd rfl (hnr t)
         | pl t => exact absurd rfl (hnp t)
         | cl T =>
          have hm' : q' ∈ idsFrom id (cnt T) := hm
          rw [mem_idsFrom] at hm'
          have : cnt T ≤ 16 := hf
          omega
         | clp ps T =>
          have hm' : q' ∈ idsFrom id (cnt T) := hm
          rw [mem_idsFrom] at hm'
          have : cnt T ≤ 16 := hf
          omega
       have hnr : ∀ (rs : List RM), (∀ t, ownTy rs ≠ some (.raw t)) ∧ ∀ t, ownTy rs ≠ some (.pl t) := by
        intro rs
        induction rs with
        | nil => exact ⟨fun t h => (by cases h), fun t h => (by cases h)⟩
        | cons r rs ih => cases r with
         | val u => exact ih
         | own u => exact ⟨fun t h => (by simp [ownTy] at h), fun t h => (by simp [ownTy] at h)⟩
         | ownp ps u => exact ⟨fun t h => (by simp [ownTy] at h), fun t h => (by simp [ownTy] at h)⟩
       have := this (hnr c.rs).1 (hnr c.rs).2 hfew hm'
       omega
    | po p q v r hq hm hat hwh =>
     have hpb : pol base.pls p = some ⟨q.t, hset q.l v none⟩ := by rw [hspl]; exact kills_pol mo hnd2 hm hq
     have hps : pol (setO base id (id + 1) (ownTy c.rs) (ownV c.rs r2)).pls p = some ⟨q.t, hset q.l v none⟩ := by rw [hr1.pls hpn]; exact hpb
     obtain ⟨r', e', h1⟩ := hmr
     cases e'
     obtain ⟨ri, e, hcs, ho⟩ := h1
     cases e
     have ho2 : ORep (fun b => F1 b ∨ Fn b) w' (plR ρ) r ⟨q.t, r1⟩ := by
      rcases hG with hG | hG
      ·exact ho.mono hG (fun _ _ h => h)
      ·exact ORep.flat0 (by have := hfm _ hG.2 rfl; exact this) ho
     have ho3 := ORep.hold0 (ρ := plR ρ) (ρ' := ρ1) (fun p i x hx => hr1.le _ _ hx) ho2
     show ∃ ρ2, _ ∧ RelAt _ _ _ _ _ ((setO base id (id + 1) (ownTy c.rs) (ownV c.rs r2)).setPl p ⟨q.t, hset q.l v (some r1)⟩) a w'
     refine ⟨ρ1, fun _ _ h => h, ?_⟩
     rcases hat with ⟨rfl, rfl⟩ | ⟨i, v1, v2, rk, ys, A, c1, rfl, hys, hrk, hok, q1, q2, q3, q5, rfl⟩
     ·exact setPl_same hps hr1.rel
     ·simp only [Go.Vu.hall, hys, Bool.and_eq_true] at hwh
      obtain ⟨z1, z2⟩ := hwh
      have z1 := Nat.eq_of_beq_eq_true z1
      have z2 := Nat.eq_of_beq_eq_true z2
      subst z1 z2
      have how := whole_back hok hkept (by simpa using q5) ho3
      have hlt : i < (hset q.l (some (i, 0, ys.length)) none).length := by simp only [hset, List.length_set]; exact pl_lt hys
      have hlv := sets_pl (s := setO base id (id + 1) (ownTy c.rs) (ownV c.rs r2)) (q := ⟨q.t, hset q.l (some (i, 0, ys.length)) none⟩) (o := some r1) hps hlt
      have hset2 : (hset q.l (some (i, 0, ys.length)) none).set i (some r1) = hset q.l (some (i, 0, ys.length)) (some r1) := by simp [hset]
      simp only [hset2] at hlv
      refine hr1.rel.alive rk (.arr ⟨q.t, r1⟩) hlv ?_ (hr1.le _ _ hrk) how (fun b hb => ?_)
      ·cases hb : (setO base id (id + 1) (ownTy c.rs) (ownV c.rs r2)).cont (.pl p i) with
       | none => rfl
       | some c' =>
        simp only [St.cont, hps, PL.cont, hset, List.getElem?_set, if_true] at hb
        split at hb
        ·rename_i heq; split at heq <;> cases heq
        ·cases hb
      ·exact hsep b ⟨cutRI rk 0 ys.length A c1, by simp, (cut_blk hok.sub b).2 hb⟩
  refine ⟨val, _, ρ2, rfl, fun d => RelAt.put hr2 d ⟨resT id c.rs, resV (bsOf base (rPls c.rs)) id c.rs r2⟩ val ?_⟩
  exact RepV.mono (fun _ h => h) (fun _ _ _ _ h => h) hle2 _ _ _ hr1.rep
end Go.Vu
