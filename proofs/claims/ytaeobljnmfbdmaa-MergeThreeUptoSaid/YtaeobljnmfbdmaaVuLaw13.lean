/- Value semantics, part 19: a call by a function's promise. -/
import Derived.Test.YtaeobljnmfbdmaaVuLaw12c
set_option linter.unusedVariables false
namespace Go.Vu
open Go
variable {P : Program} {tb : Tab} {R : Type} {F0 : Bs} {M F F' : Nat → Prop} {W0 w w' : World} {ρ ρ' : RK → Option RI} {s : St} {a : Act} {m : Nat → Nat → Option Value} {id : Nat}
theorem noDup_cons {x : Nat} {l : List Nat} (h : noDup (x :: l) = true) : x ∉ l ∧ noDup l = true := by
 simp only [noDup, Bool.and_eq_true, Bool.not_eq_true'] at h
 exact ⟨fun hm => (by rw [List.contains_iff_mem.2 hm] at h; cases h.1), h.2⟩
theorem noDup_append : ∀ {a b : List Nat}, noDup (a ++ b) = true → (∀ x ∈ a, x ∉ b) ∧ noDup b = true
 | [], b, h => ⟨fun x hx => (by cases hx), h⟩
 | x :: a, b, h => by
  obtain ⟨h1, h2⟩ := noDup_cons (l := a ++ b) h
  obtain ⟨h3, h4⟩ := noDup_append h2
  refine ⟨fun y hy => ?_, h4⟩
  rcases List.mem_cons.1 hy with rfl | hy
  ·exact fun hb => h1 (by simp [hb])
  ·exact h3 y hy
theorem MO.has_reg {o : MO} {q : Nat} (h : o.has (.reg q)) : o.rg = some q := by
 cases o with
 | no => cases h
 | reg r f => cases h; rfl
 | po p v => obtain ⟨u, _, e⟩ := h; cases e
 | pool ps => obtain ⟨p, _, i, e⟩ := h; cases e
theorem MO.has_pl {o : MO} {p i : Nat} (h : o.has (.pl p i)) : p ∈ o.pl := by
 cases o with
 | no => cases h
 | reg r f => cases h
 | po p v => obtain ⟨u, _, e⟩ := h; cases e; simp [MO.pl]
 | pool ps => obtain ⟨p, hp, i, e⟩ := h; cases e; exact hp
theorem has_moRegs {mo : List MO} {o : MO} {q : Nat} (hm : o ∈ mo) (h : o.has (.reg q)) : q ∈ moRegs mo := List.mem_filterMap.2 ⟨o, hm, MO.has_reg h⟩
theorem has_moPls {mo : List MO} {o : MO} {p i : Nat} (hm : o ∈ mo) (h : o.has (.pl p i)) : p ∈ moPls mo := List.mem_flatMap.2 ⟨o, hm, MO.has_pl h⟩
theorem off_not {mo : List MO} {Q : RQ} (h : Q.off mo = true) {k : RK} (hk : Q.has k) {o : MO} (ho : o ∈ mo) : ¬ o.has k := by
 cases Q with
 | reg q =>
  cases hk
  simp only [RQ.off, Bool.not_eq_true'] at h
  intro hh
  rw [List.contains_iff_mem.2 (has_moRegs ho hh)] at h
  cases h
 | pool p =>
  obtain ⟨i, rfl⟩ := hk
  simp only [RQ.off, Bool.not_eq_true'] at h
  intro hh
  rw [List.contains_iff_mem.2 (has_moPls ho hh)] at h
  cases h
theorem own_blk : ∀ {mo : List MO} {ris : List RI}, OwnRs s ρ mo ris → ∀ b, Blk ris b → ∃ o k c rk, o ∈ mo ∧ o.has k ∧ s.cont k = some c ∧ ρ k = some rk ∧ rk.blk b
 | [], ris, h, b, hb => by
  obtain ⟨ri, h1, _⟩ := hb
  rw [show ris = [] from h] at h1; simp at h1
 | o :: mo, ris, ⟨ri, rs, e, h1, h2⟩, b, hb => by
  subst e
  obtain ⟨ri', h4, h5⟩ := hb
  rcases List.mem_cons.1 h4 with rfl | h4
  ·obtain ⟨k, c, rk, g1, g2⟩ := h1.blk b h5
   exact ⟨o, k, c, rk, by simp, g1, g2⟩
  ·obtain ⟨o', k, c, rk, g1, g2⟩ := own_blk h2 b ⟨ri', h4, h5⟩
   exact ⟨o', k, c, rk, List.mem_cons_of_mem _ g1, g2⟩
theorem own_apart (h : RelAt F0 M W0 F ρ s a w) : ∀ {mo : List MO} {ris : List RI}, OwnRs s ρ mo ris → noDup (moRegs mo) = true → noDup (moPls mo) = true → Apart ris
 | [], ris, hc, _, _ => by rw [show ris = [] from hc]; trivial
 | o :: mo, ris, ⟨ri, rs, e, h1, h2⟩, hn, hn2 => by
  subst e
  have hr : noDup (moRegs mo) = true ∧ ∀ q, o.rg = some q → q ∉ moRegs mo := by
   cases ho : o.rg with
   | none => exact ⟨by simpa [moRegs, ho] using hn, fun q e => by cases e⟩
   | some q =>
    obtain ⟨h3, h4⟩ := noDup_cons (x := q) (l := moRegs mo) (by simpa [moRegs, ho] using hn)
    exact ⟨h4, fun q' e => by cases e; exact h3⟩
  obtain ⟨hp, hn2'⟩ := noDup_append (a := o.pl) (b := moPls mo) (by simpa [moPls] using hn2)
  refine ⟨fun b hb hb2 => ?_, own_apart h h2 hr.1 hn2'⟩
  obtain ⟨k, c, rk, g1, g2, g3, g4⟩ := h1.blk b hb
  obtain ⟨o', k', c', rk', k1, k2, k3, k4, k5⟩ := own_blk h2 b hb2
  have := h.csep k k' c c' rk rk' b g2 k3 g3 k4 g4 k5
  subst this
  cases k with
  | reg q => exact hr.2 q (MO.has_reg g1) (has_moRegs k1 k2)
  | pl p i => exact hp p (MO.has_pl g1) (has_moPls k1 k2)
theorem setPl_cont {p : Nat} {q : PL} (hq : pol s.pls p = some q) {l : List (Option (List q.t.den))} {k : RK} : (s.setPl p ⟨q.t, l⟩).cont k = (match k with | .pl p' i => (if p = p' then PL.cont ⟨q.t, l⟩ i else s.cont k) | .reg _ => s.cont k) := by
 cases k with
 | reg r => rfl
 | pl p' i =>
  simp only [St.cont, pol_setPl]
  by_cases e : p = p'
  ·rw [if_pos e, if_pos e]
  ·rw [if_neg e, if_neg e]
theorem setPl_less (h : RelAt F0 M W0 F ρ s a w) {p : Nat} {q : PL} (hq : pol s.pls p = some q) {l : List (Option (List q.t.den))} (hl : l.length = q.l.length) (hi : ∀ (i : Nat) xs, l[i]? = some (some xs) → q.l[i]? = some (some xs)) : RelAt F0 M W0 F ρ (s.setPl p ⟨q.t, l⟩) a w := by
 refine h.less (fun _ => rfl) (fun k c hk => ?_) (fun _ h => h) (fun p' => ?_)
 ·rw [setPl_cont hq] at hk
  cases k with
  | reg r => exact hk
  | pl p' i =>
   simp only at hk
   split at hk
   ·rename_i e
    subst e
    simp only [PL.cont] at hk
    split at hk
    ·rename_i xs hx
     cases hk
     simp only [St.cont, hq, PL.cont, hi i xs hx]
    ·cases hk
   ·exact hk
 ·rw [pln_setPl]
  split
  ·rename_i e; subst e; rw [pln_of hq, hl]
  ·rfl
theorem deadPl_law : ∀ (ps : List Nat) {s : St}, RelAt F0 M W0 F ρ s a w → RelAt F0 M W0 F ρ (deadPl s ps) a w
 | [], _, h => h
 | p :: ps, s, h => by
  simp only [deadPl]
  split
  ·rename_i q hq
   exact deadPl_law ps (setPl_less h hq (by simp) (fun i xs hx => by simp only [List.getElem?_map, Option.map_eq_some_iff] at hx; obtain ⟨_, _, e⟩ := hx; cases e))
  ·exact deadPl_law ps h
theorem kill1_law {o : MO} (h : RelAt F0 M W0 F ρ s a w) : RelAt F0 M W0 F ρ (kill1 s o) a w := by
 cases o with
 | no => exact h
 | reg r f => exact h.kill r
 | po p v =>
  simp only [kill1]
  split
  ·rename_i q hq
   refine setPl_less h hq (by unfold hset; split <;> simp) (fun i xs hx => ?_)
   unfold hset at hx
   split at hx
   ·rw [List.getElem?_set] at hx
    split at hx
    ·split at hx <;> cases hx
    ·exact hx
   ·exact hx
  ·exact h
 | pool ps => exact deadPl_law ps h
theorem kills_law : ∀ (mo : List MO) {s : St}, RelAt F0 M W0 F ρ s a w → RelAt F0 M W0 F ρ (kills s mo) a w
 | [], _, h => h
 | o :: mo, s, h => kills_law mo (kill1_law h)
theorem deadPl_cont : ∀ (ps : List Nat) {s : St} {k : RK} {c : Cont}, (deadPl s ps).cont k = some c ↔ s.cont k = some c ∧ ∀ p ∈ ps, ∀ i, k ≠ .pl p i
 | [], s, k, c => by simp [deadPl]
 | p :: ps, s, k, c => by
  simp only [deadPl]
  split
  ·rename_i q hq
   rw [deadPl_cont ps, setPl_cont hq]
   cases k with
   | reg r => simp
   | pl p' i =>
    simp only
    by_cases e : p = p'
    ·subst e
     rw [if_pos rfl]
     simp only [PL.cont, List.getElem?_map]
     constructor
     ·rintro ⟨h1, _⟩
      cases hl : q.l[i]? <;> rw [hl] at h1 <;> cases h1
     ·rintro ⟨_, h2⟩
      exact absurd rfl (h2 p (by simp) i)
    ·rw [if_neg e]
     constructor
     ·rintro ⟨h1, h2⟩
      exact ⟨h1, fun p2 hp i' => by
       rcases List.mem_cons.1 hp with rfl | hp
       ·intro e2; cases e2; exact e rfl
       ·exact h2 p2 hp i'⟩
     ·rintro ⟨h1, h2⟩
      exact ⟨h1, fun p2 hp => h2 p2 (by simp [hp])⟩
  ·rename_i hq
   rw [deadPl_cont ps]
   constructor
   ·rintro ⟨h1, h2⟩
    refine ⟨h1, fun p2 hp i' e => ?_⟩
    rcases List.mem_cons.1 hp with rfl | hp
    ·subst e
     simp only [St.cont, hq] at h1
     cases h1
    ·exact h2 p2 hp i' e
   ·rintro ⟨h1, h2⟩
    exact ⟨h1, fun p2 hp => h2 p2 (by simp [hp])⟩
theorem kill1_cont {o : MO} {k : RK} {c : Cont} : (kill1 s o).cont k = some c ↔ s.cont k = some c ∧ ¬ o.has k := by
 cases o with
 | no => simp [kill1, MO.has]
 | reg r f =>
  simp only [kill1, MO.has]
  rw [St.cont_setObj]
  by_cases e : (r : RK) = k
  ·rw [if_pos e]; simp [ObS.cont, e]
  ·rw [if_neg e]; simp [Ne.symm e]
 | po p v =>
  simp only [kill1, MO.has]
  split
  ·rename_i q hq
   rw [setPl_cont hq]
   cases k with
   | reg r => simp
   | pl p' i =>
    simp only
    by_cases e : p = p'
    ·subst e
     rw [if_pos rfl]
     cases v with
     | none => simp [hset, St.cont, hq]
     | some u =>
      simp only [hset, St.cont, hq, PL.cont, List.getElem?_set]
      by_cases e2 : u.1 = i
      ·subst e2
       simp only [if_true]
       constructor
       ·intro h1
        split at h1
        ·rename_i heq; split at heq <;> cases heq
        ·cases h1
       ·rintro ⟨_, h2⟩
        exact absurd ⟨u, rfl, rfl⟩ h2
      ·rw [if_neg e2]
       constructor
       ·intro h1
        refine ⟨?_, ?_⟩
        ·split at h1
         ·exact h1
         ·cases h1
        ·rintro ⟨u', e3, e4⟩
         cases e3; cases e4; exact e2 rfl
       ·rintro ⟨h1, _⟩
        split at h1
        ·exact h1
        ·cases h1
    ·rw [if_neg e]
     constructor
     ·intro h1
      refine ⟨h1, ?_⟩
      rintro ⟨u, _, e3⟩
      cases e3; exact e rfl
     ·rintro ⟨h1, _⟩; exact h1
  ·rename_i hq
   constructor
   ·intro h1
    refine ⟨h1, ?_⟩
    rintro ⟨u, _, e3⟩
    subst e3
    simp only [St.cont, hq] at h1
    cases h1
   ·rintro ⟨h1, _⟩; exact h1
 | pool ps =>
  simp only [kill1, MO.has]
  rw [deadPl_cont]
  constructor
  ·rintro ⟨h1, h2⟩
   exact ⟨h1, fun ⟨p, hp, i, e⟩ => h2 p hp i e⟩
  ·rintro ⟨h1, h2⟩
   exact ⟨h1, fun p hp i e => h2 ⟨p, hp, i, e⟩⟩
theorem kills_cont : ∀ (mo : List MO) {s : St} {k : RK} {c : Cont}, (kills s mo).cont k = some c ↔ s.cont k = some c ∧ ∀ o ∈ mo, ¬ o.has k
 | [], s, k, c => by simp [kills]
 | o :: mo, s, k, c => by
  rw [kills, kills_cont mo, kill1_cont]
  constructor
  ·rintro ⟨⟨h1, h2⟩, h3⟩
   exact ⟨h1, fun o' ho => (List.mem_cons.1 ho).elim (fun e => e ▸ h2) (h3 o')⟩
  ·rintro ⟨h1, h2⟩
   exact ⟨⟨h1, h2 o (by simp)⟩, fun o' ho => h2 o' (by simp [ho])⟩
theorem deadPl_ol : ∀ (ps : List Nat) {s : St}, (deadPl s ps).objs = s.objs
 | [], _ => rfl
 | p :: ps, s => by
  simp only [deadPl]
  split
  ·rw [deadPl_ol ps]; rfl
  ·exact deadPl_ol ps
theorem kill1_fresh {o : MO} {q : Nat} (hq : ∀ f, o ≠ .reg q f) (h : ol s.objs q = none) : ol (kill1 s o).objs q = none := by
 cases o with
 | no => exact h
 | reg r f => rw [kill1, ol_setObj, if_neg (fun e => hq f (by rw [e]))]; exact h
 | po p v => simp only [kill1]; split <;> exact h
 | pool ps => rw [kill1, deadPl_ol]; exact h
theorem kills_fresh : ∀ (mo : List MO) {s : St} {q : Nat}, (∀ f, MO.reg q f ∉ mo) → ol s.objs q = none → ol (kills s mo).objs q = none
 | [], _, _, _, h => h
 | o :: mo, s, q, hq, h => kills_fresh mo (fun f hm => hq f (by simp [hm])) (kill1_fresh (fun f e => hq f (by simp [e])) h)
structure Frozen (F0 : Bs) (M : Nat → Prop) (W0 : World) (F : Nat → Prop) (ρ : RK → Option RI) (s s' : St) (al : List RQ) (a : Act) (w : World) (F' : Nat → Prop) : Prop where
 rel : RelAt F0 M W0 F' ρ s' a w
 up : ∀ b, F b → F' b
 low : ∀ b, F' b → F b ∨ ∃ Q ∈ al, ∃ k c ri, Q.has k ∧ s.cont k = some c ∧ ρ k = some ri ∧ ri.blk b
 all : ∀ Q ∈ al, ∀ k c ri b, Q.has k → s.cont k = some c → ρ k = some ri → ri.blk b → F' b
 cont : ∀ q c', s'.cont q = some c' → ∃ c, s.cont q = some c
 fresh : ∀ q, ol s.objs q = none → ol s'.objs q = none
 pls : s'.pls = s.pls
theorem frzs_law : ∀ (al : List RQ) {s s' : St} {F : Nat → Prop}, frzs s al = some s' → RelAt F0 M W0 F ρ s a w → ∃ F', Frozen F0 M W0 F ρ s s' al a w F'
 | [], s, s', F, he, h => by
  cases he
  exact ⟨F, h, fun _ h => h, fun b hb => .inl hb, fun q hq => (by cases hq), fun q c hq => ⟨c, hq⟩, fun q h => h, rfl⟩
 | .pool p :: al, s, s', F, he, h => by simp [frzs] at he
 | .reg r :: al, s, s', F, he, h => by
  have step : ∀ c, s.cont r = some c → c.pure = true → frzs (s.frz r (.frz c)) al = some s' → ∃ F', Frozen F0 M W0 F ρ s s' (.reg r :: al) a w F' := fun c hc hp he => by
   obtain ⟨F1, ri, g1, g2, g3, g4, g5, g6⟩ := frz_law' h hc hp
   obtain ⟨F2, k⟩ := frzs_law al he g5
   have back : ∀ q c', (s.frz r (.frz c)).cont q = some c' → q ≠ r ∧ ∃ c0, s.cont q = some c0 := fun q c' hq => by
    rw [cont_frz] at hq
    split at hq
    ·cases hq
    ·rename_i e
     cases hs : s.cont q with
     | none => rw [hs] at hq; cases hq
     | some c0 => exact ⟨Ne.symm e, c0, rfl⟩
   have fwd : ∀ (q : RK) c0, q ≠ r → s.cont q = some c0 → ∃ c', (s.frz r (.frz c)).cont q = some c' := fun q c0 hn hs => ⟨frzC1 r (.frz c) c0, by rw [cont_frz, if_neg (Ne.symm hn), hs]; rfl⟩
   refine ⟨F2, k.rel, fun b hb => k.up b (g1 b hb), fun b hb => ?_, fun Q hQ q c0 ri0 b hh h1 h2 h3 => ?_, fun q c' hq => ?_, fun q hq => k.fresh q (frz_fresh hc hq), k.pls⟩
   ·rcases k.low b hb with hb | ⟨Q, hQ, q, c', ri', hh, h1, h2, h3⟩
    ·rcases g6 b hb with hb | hb
     ·exact .inl hb
     ·exact .inr ⟨.reg r, by simp, r, c, ri, rfl, hc, g2, hb⟩
    ·obtain ⟨_, c0, h4⟩ := back q c' h1
     exact .inr ⟨Q, by simp [hQ], q, c0, ri', hh, h4, h2, h3⟩
   ·by_cases e : q = r
    ·subst e
     rw [g2] at h2; cases h2
     obtain ⟨p, hA, rfl⟩ := blk_nosub (CRep.nosub g3 fun _ _ _ _ e => by subst e; cases hp) h3
     exact k.up _ (g4 p hA)
    ·rcases List.mem_cons.1 hQ with e2 | hQ
     ·subst e2; exact absurd hh e
     ·obtain ⟨c', h4⟩ := fwd q c0 e h1
      exact k.all Q hQ q c' ri0 b hh h4 h2 h3
   ·obtain ⟨c1, h1⟩ := k.cont q c' hq
    exact (back q c1 h1).2
  unfold frzs at he
  split at he
  ·rename_i ob hob
   split at he
   ·exact step _ hob rfl he
   ·cases he
  ·rename_i y hy
   split at he
   ·rename_i hp; exact step _ hy hp he
   ·cases he
  ·cases he
  ·cases he
  ·cases he
  ·rename_i hn
   obtain ⟨F2, k⟩ := frzs_law al he h
   refine ⟨F2, k.rel, k.up, fun b hb => ?_, fun Q hQ q c0 ri0 b hh h1 h2 h3 => ?_, k.cont, k.fresh, k.pls⟩
   ·rcases k.low b hb with hb | ⟨Q, hQ, q, c', ri', h1⟩
    ·exact .inl hb
    ·exact .inr ⟨Q, by simp [hQ], q, c', ri', h1⟩
   ·rcases List.mem_cons.1 hQ with e2 | hQ
    ·subst e2; cases hh; rw [hn] at h1; cases h1
    ·exact k.all Q hQ q c0 ri0 b hh h1 h2 h3
def extN (ρ : RK → Option RI) (k : Nat) (ris : List RI) : RK → Option RI := fun q => match q with
 | .reg q => if k ≤ q ∧ q < k + ris.length then ris[q - k]? else ρ q
 | .pl p i => ρ (.pl p i)
theorem extN_at {k j : Nat} {ris : List RI} {ri : RI} (h : ris[j]? = some ri) : extN ρ k ris (k + j) = some ri := by
 have : j < ris.length := by
  rcases Nat.lt_or_ge j ris.length with h1 | h1
  ·exact h1
  ·rw [List.getElem?_eq_none h1] at h; cases h
 show (if k ≤ k + j ∧ k + j < k + ris.length then ris[k + j - k]? else ρ (k + j : Nat)) = some ri
 rw [if_pos ⟨by omega, by omega⟩, Nat.add_sub_cancel_left]; exact h
theorem extN_out {k q : Nat} {ris : List RI} (h : ¬ (k ≤ q ∧ q < k + ris.length)) : extN ρ k ris q = ρ q := if_neg h
theorem ol_putAll : ∀ (cs : List Cont) {s : St} {k q : Nat}, ol (putAll s k cs).objs q = if k ≤ q ∧ q < k + cs.length then (cs[q - k]?).map .live else ol s.objs q
 | [], s, k, q => by rw [if_neg (by simp only [List.length_nil]; omega)]; rfl
 | c :: cs, s, k, q => by
  rw [putAll, ol_putAll cs, ol_setObj]
  by_cases e : k = q
  ·subst e
   rw [if_neg (by omega), if_pos rfl, if_pos ⟨Nat.le_refl _, by simp⟩]
   simp
  ·by_cases h1 : k + 1 ≤ q ∧ q < k + 1 + cs.length
   ·rw [if_pos h1, if_pos ⟨by omega, by simp; omega⟩]
    rw [show q - k = (q - (k + 1)) + 1 by omega]
    simp
   ·rw [if_neg h1, if_neg e, if_neg (by simp only [List.length_cons]; omega)]
theorem cont_putAll {cs : List Cont} {s : St} {k q : Nat} : (putAll s k cs).cont q = if k ≤ q ∧ q < k + cs.length then cs[q - k]? else s.cont q := by
 simp only [St.cont, ol_putAll]
 split
 ·rename_i h
  split at h
  ·cases hc : cs[q - k]? with
   | none => rw [hc] at h; cases h
   | some x => rw [hc] at h; cases h; rename_i h3; rw [if_pos h3]
  ·rename_i h3; rw [if_neg h3]; simp only [h]
 ·rename_i h
  split at h
  ·rename_i h3
   rw [if_pos h3]
   cases hc : cs[q - k]? with
   | none => rfl
   | some x => rw [hc] at h; exact absurd rfl (h x)
  ·rename_i h3
   rw [if_neg h3]
   split
   ·rename_i h4; exact absurd h4 (h _)
   ·rfl
theorem get_putAll : ∀ (cs : List Cont) {s : St} {k i : Nat}, (putAll s k cs).get i = s.get i
 | [], _, _, _ => rfl
 | c :: cs, s, k, i => get_putAll cs
theorem putAll_pls : ∀ (cs : List Cont) {s : St} {k : Nat}, (putAll s k cs).pls = s.pls
 | [], _, _ => rfl
 | c :: cs, s, k => putAll_pls cs
theorem cont_putAll_pl {cs : List Cont} {s : St} {k p i : Nat} : (putAll s k cs).cont (.pl p i) = s.cont (.pl p i) := by
 simp only [St.cont, putAll_pls]
theorem apart_idx : ∀ (ris : List RI), Apart ris → ∀ {i j : Nat} {x y : RI} {b : Nat}, ris[i]? = some x → ris[j]? = some y → x.blk b → y.blk b → i = j
 | [], _, i, j, x, y, b, h, _, _, _ => by simp at h
 | r :: ris, ⟨ha, hb⟩, i, j, x, y, b, h1, h2, e1, e2 => by
  cases i with
  | zero =>
   simp only [List.getElem?_cons_zero, Option.some.injEq] at h1; subst h1
   cases j with
   | zero => rfl
   | succ j => exact absurd ⟨y, List.mem_of_getElem? (by simpa using h2), e2⟩ (ha b e1)
  | succ i =>
   cases j with
   | zero =>
    simp only [List.getElem?_cons_zero, Option.some.injEq] at h2; subst h2
    exact absurd ⟨x, List.mem_of_getElem? (by simpa using h1), e1⟩ (ha b e2)
   | succ j => rw [apart_idx ris hb (i := i) (j := j) (by simpa using h1) (by simpa using h2) e1 e2]
theorem adds_law (h : RelAt F0 M W0 F ρ s a w) {k : Nat} {cs : List Cont} {ris : List RI} (hl : cs.length = ris.length) (hf : ∀ j, j < ris.length → ol s.objs (k + j) = none) (hap : Apart ris)
  (hb : ∀ b, Blk ris b → ¬ F b ∧ (W0.heap.size ≤ b ∨ M b) ∧ ∀ q c ri, s.cont q = some c → ρ q = some ri → ¬ ri.blk b)
  (hc : ∀ (j : Nat) c, cs[j]? = some c → ∃ ri, ris[j]? = some ri ∧ CRep F w (extN ρ k ris) ri c) : RelAt F0 M W0 F (extN ρ k ris) (putAll s k cs) a w := by
 have hle : ∀ q x, ρ q = some x → extN ρ k ris q = some x := fun q x hq => by
  cases q with
  | pl p i => exact hq
  | reg q =>
   rw [extN_out]
   ·exact hq
   ·intro ⟨h1, h2⟩
    have := h.fresh q (by rw [show q = k + (q - k) by omega]; exact hf _ (by omega))
    rw [hq] at this; cases this
 have inr : ∀ {q : RK} {c}, (putAll s k cs).cont q = some c → (∃ (j : Nat) (ri : RI), q = (k + j : Nat) ∧ ris[j]? = some ri ∧ cs[j]? = some c ∧ extN ρ k ris q = some ri ∧ CRep F w (extN ρ k ris) ri c) ∨ (s.cont q = some c ∧ extN ρ k ris q = ρ q) := fun {q c} hq => by
  cases q with
  | pl p i => exact .inr ⟨by rw [cont_putAll_pl] at hq; exact hq, rfl⟩
  | reg q =>
   rw [cont_putAll] at hq
   split at hq
   ·rename_i hr
    obtain ⟨ri, h1, h2⟩ := hc _ c hq
    refine .inl ⟨q - k, ri, by rw [show k + (q - k) = q by omega], h1, hq, ?_, h2⟩
    have h3 := extN_at (ρ := ρ) (k := k) h1
    rw [show k + (q - k) = q by omega] at h3
    exact h3
   ·rename_i hr
    exact .inr ⟨hq, extN_out (by rw [← hl]; exact hr)⟩
 have blkOf : ∀ {j : Nat} {ri : RI} {b : Nat}, ris[j]? = some ri → ri.blk b → Blk ris b := fun {j ri b} h1 h2 => ⟨ri, List.mem_of_getElem? h1, h2⟩
 refine ⟨h.defers, fun i x hx => ?_, fun q c hq => ?_, fun q q' c c' ri ri' b hq hq' h1 h2 hb1 hb2 => ?_, fun q c ri b hq h1 hb1 => ?_, fun q hq => ?_, fun p n i hn => h.pfresh p n i (by simp only [St.pln, putAll_pls] at hn; exact hn), fun p i hn => h.pfor p i (by simp only [St.pln, putAll_pls] at hn; exact hn), h.lt, h.base, h.frm, h.kept⟩
 ·rw [get_putAll] at hx
  obtain ⟨val, h1, h2⟩ := h.slot i x hx
  exact ⟨val, h1, RepV.mono (fun _ h => h) (fun _ _ _ _ h => h) hle _ _ _ h2⟩
 ·rcases inr hq with ⟨j, ri, _, _, _, h3, h4⟩ | ⟨h3, h4⟩
  ·exact ⟨ri, h3, h4⟩
  ·obtain ⟨ri, h5, h6⟩ := h.cobj q c h3
   exact ⟨ri, hle _ _ h5, h6.mono (fun _ h => h) hle⟩
 ·rcases inr hq with ⟨j, r1, e1, g1, _, g3, _⟩ | ⟨g1, g2⟩ <;> rcases inr hq' with ⟨j', r2, e2, k1, _, k3, _⟩ | ⟨k1, k2⟩
  ·rw [g3] at h1; cases h1
   rw [k3] at h2; cases h2
   rw [e1, e2, apart_idx ris hap g1 k1 hb1 hb2]
  ·rw [g3] at h1; cases h1
   rw [k2] at h2
   exact absurd hb2 ((hb b (blkOf g1 hb1)).2.2 q' c' ri' k1 h2)
  ·rw [k3] at h2; cases h2
   rw [g2] at h1
   exact absurd hb1 ((hb b (blkOf k1 hb2)).2.2 q c ri g1 h1)
  ·rw [g2] at h1; rw [k2] at h2
   exact h.csep q q' c c' ri ri' b g1 k1 h1 h2 hb1 hb2
 ·rcases inr hq with ⟨j, r1, e1, g1, _, g3, _⟩ | ⟨g1, g2⟩
  ·rw [g3] at h1; cases h1
   have := hb b (blkOf g1 hb1)
   exact ⟨this.1, this.2.1⟩
  ·rw [g2] at h1
   exact h.cown q c ri b g1 h1 hb1
 ·rw [ol_putAll] at hq
  split at hq
  ·rename_i hr
   have : q - k < cs.length := by omega
   rw [List.getElem?_eq_getElem this] at hq; cases hq
  ·rename_i hr
   rw [extN_out (by rw [← hl]; exact hr)]
   exact h.fresh q hq
end Go.Vu
