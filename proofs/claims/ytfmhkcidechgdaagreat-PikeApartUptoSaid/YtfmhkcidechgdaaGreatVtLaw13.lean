/- Value semantics, part 19: a call by a function's promise. -/
import Derived.Test.YtfmhkcidechgdaaGreatVtLaw12b
set_option linter.unusedVariables false
namespace Go.Vt
open Go
variable {P : Program} {tb : Tab} {R : Type} {F0 M F F' : Nat → Prop} {W0 w w' : World} {ρ ρ' : Nat → Option RI} {s : St} {a : Act} {m : Nat → Nat → Option Value} {id : Nat}
theorem noDup_cons {x : Nat} {l : List Nat} (h : noDup (x :: l) = true) : x ∉ l ∧ noDup l = true := by
  simp only [noDup, Bool.and_eq_true, Bool.not_eq_true'] at h
  exact ⟨fun hm => (by rw [List.contains_iff_mem.2 hm] at h; cases h.1), h.2⟩
theorem own_blk : ∀ {mo : List (Option Nat × Bool)} {ris : List RI}, OwnRs s ρ mo ris → ∀ b, Blk ris b → ∃ q c rq, q ∈ moRegs mo ∧ s.cont q = some c ∧ ρ q = some rq ∧ rq.blk b
  | [], ris, h, b, hb => by
    obtain ⟨ri, h1, _⟩ := hb
    rw [show ris = [] from h] at h1; simp at h1
  | (o, f) :: mo, ris, ⟨ri, rs, e, h1, h2⟩, b, hb => by
    subst e
    obtain ⟨ri', h4, h5⟩ := hb
    rcases List.mem_cons.1 h4 with rfl | h4
    · cases o with
      | none => exact absurd h5 (h1.empty rfl b)
      | some q =>
        obtain ⟨c, rq, g1, g2, g3⟩ := h1.part q rfl
        exact ⟨q, c, rq, by simp [moRegs], g1, g2, g3 b h5⟩
    · obtain ⟨q, c, rq, g1, g2⟩ := own_blk h2 b ⟨ri', h4, h5⟩
      refine ⟨q, c, rq, ?_, g2⟩
      simp only [moRegs, List.filterMap_cons] at g1 ⊢
      cases o with
      | none => exact g1
      | some q' => exact List.mem_cons_of_mem _ g1
theorem own_apart (h : RelAt F0 M W0 F ρ s a w) : ∀ {mo : List (Option Nat × Bool)} {ris : List RI}, OwnRs s ρ mo ris → noDup (moRegs mo) = true → Apart ris
  | [], ris, hc, hn => by rw [show ris = [] from hc]; trivial
  | (o, f) :: mo, ris, ⟨ri, rs, e, h1, h2⟩, hn => by
    subst e
    cases o with
    | none =>
      have hn' : noDup (moRegs mo) = true := by simpa [moRegs] using hn
      exact ⟨fun b hb => absurd hb (h1.empty rfl b), own_apart h h2 hn'⟩
    | some q =>
      obtain ⟨hq, hn⟩ := noDup_cons (x := q) (l := moRegs mo) (by simpa [moRegs] using hn)
      refine ⟨fun b hb hb2 => ?_, own_apart h h2 hn⟩
      obtain ⟨c, rq, g1, g2, g3⟩ := h1.part q rfl
      obtain ⟨q', c', rq', k1, k2, k3, k4⟩ := own_blk h2 b hb2
      have := h.csep q q' c c' rq rq' b g1 k2 g2 k3 (g3 b hb) k4
      subst this
      exact hq k1
theorem kills_law : ∀ (mo : List (Option Nat × Bool)) {s : St}, RelAt F0 M W0 F ρ s a w → RelAt F0 M W0 F ρ (kills s mo) a w
  | [], _, h => h
  | (some r, _) :: mo, s, h => kills_law mo (h.kill r)
  | (none, _) :: mo, s, h => kills_law mo h
theorem kills_ol : ∀ (mo : List (Option Nat × Bool)) {s : St} {q : Nat}, ol (kills s mo).objs q = if q ∈ moRegs mo then some .dead else ol s.objs q
  | [], _, _ => by simp [kills, moRegs]
  | (some r, b) :: mo, s, q => by
    rw [kills, kills_ol mo, ol_setObj]
    simp only [moRegs, List.filterMap_cons, List.mem_cons]
    by_cases h1 : q ∈ moRegs mo
    · have h1' : q ∈ List.filterMap (fun x => x.1) mo := h1
      simp [h1']
    · have h1' : ¬ q ∈ List.filterMap (fun x => x.1) mo := h1
      by_cases e : r = q
      · subst e; simp [h1']
      · simp [h1', e, Ne.symm e]
  | (none, b) :: mo, s, q => by
    rw [kills, kills_ol mo]
    simp [moRegs]
theorem kills_cont (mo : List (Option Nat × Bool)) {s : St} {q : Nat} : (kills s mo).cont q = if q ∈ moRegs mo then none else s.cont q := by
  unfold St.cont
  rw [kills_ol]
  by_cases h : q ∈ moRegs mo
  · simp [h]
  · simp [h]
structure Frozen (F0 M : Nat → Prop) (W0 : World) (F : Nat → Prop) (ρ : Nat → Option RI) (s s' : St) (al : List Nat) (a : Act) (w : World) (F' : Nat → Prop) : Prop where
  rel : RelAt F0 M W0 F' ρ s' a w
  up : ∀ b, F b → F' b
  low : ∀ b, F' b → F b ∨ ∃ q ∈ al, ∃ c ri, s.cont q = some c ∧ ρ q = some ri ∧ ri.blk b
  all : ∀ q ∈ al, ∀ c ri b, s.cont q = some c → ρ q = some ri → ri.blk b → F' b
  cont : ∀ q c', s'.cont q = some c' → ∃ c, s.cont q = some c
  fresh : ∀ q, ol s.objs q = none → ol s'.objs q = none
theorem frzs_law : ∀ (al : List Nat) {s s' : St} {F : Nat → Prop}, frzs s al = some s' → RelAt F0 M W0 F ρ s a w → ∃ F', Frozen F0 M W0 F ρ s s' al a w F'
  | [], s, s', F, he, h => by
    cases he
    exact ⟨F, h, fun _ h => h, fun b hb => .inl hb, fun q hq => (by cases hq), fun q c hq => ⟨c, hq⟩, fun q h => h⟩
  | r :: al, s, s', F, he, h => by
    have step : ∀ c, s.cont r = some c → c.pure = true → frzs (s.frz r c) al = some s' → ∃ F', Frozen F0 M W0 F ρ s s' (r :: al) a w F' := fun c hc hp he => by
      obtain ⟨F1, ri, g1, g2, g3, g4, g5, g6⟩ := frz_law' h hc hp
      obtain ⟨F2, k⟩ := frzs_law al he g5
      have back : ∀ q c', (s.frz r c).cont q = some c' → q ≠ r ∧ ∃ c0, s.cont q = some c0 := fun q c' hq => by
        rw [cont_frz] at hq
        split at hq
        · cases hq
        · rename_i e
          cases hs : s.cont q with
          | none => rw [hs] at hq; cases hq
          | some c0 => exact ⟨Ne.symm e, c0, rfl⟩
      have fwd : ∀ q c0, q ≠ r → s.cont q = some c0 → ∃ c', (s.frz r c).cont q = some c' := fun q c0 hn hs => ⟨_, by rw [cont_frz, if_neg (Ne.symm hn), hs]; rfl⟩
      refine ⟨F2, k.rel, fun b hb => k.up b (g1 b hb), fun b hb => ?_, fun q hq c0 ri0 b h1 h2 h3 => ?_, fun q c' hq => ?_, fun q hq => k.fresh q (frz_fresh hc hq)⟩
      · rcases k.low b hb with hb | ⟨q, hq, c', ri', h1, h2, h3⟩
        · rcases g6 b hb with hb | hb
          · exact .inl hb
          · exact .inr ⟨r, by simp, c, ri, hc, g2, hb⟩
        · obtain ⟨_, c0, h4⟩ := back q c' h1
          exact .inr ⟨q, by simp [hq], c0, ri', h4, h2, h3⟩
      · by_cases e : q = r
        · subst e
          rw [g2] at h2; cases h2
          obtain ⟨p, hA, rfl⟩ := blk_nosub g3.nosub h3
          exact k.up _ (g4 p hA)
        · rcases List.mem_cons.1 hq with e2 | hq
          · exact absurd e2 e
          · obtain ⟨c', h4⟩ := fwd q c0 e h1
            exact k.all q hq c' ri0 b h4 h2 h3
      · obtain ⟨c1, h1⟩ := k.cont q c' hq
        exact (back q c1 h1).2
    unfold frzs at he
    split at he
    · rename_i ob hob; exact step _ hob rfl he
    · rename_i y hy
      split at he
      · rename_i hp; exact step _ hy hp he
      · cases he
    · cases he
    · rename_i hn
      obtain ⟨F2, k⟩ := frzs_law al he h
      refine ⟨F2, k.rel, k.up, fun b hb => ?_, fun q hq c0 ri0 b h1 h2 h3 => ?_, k.cont, k.fresh⟩
      · rcases k.low b hb with hb | ⟨q, hq, c', ri', h1⟩
        · exact .inl hb
        · exact .inr ⟨q, by simp [hq], c', ri', h1⟩
      · rcases List.mem_cons.1 hq with e2 | hq
        · subst e2; rw [hn] at h1; cases h1
        · exact k.all q hq c0 ri0 b h1 h2 h3
def extN (ρ : Nat → Option RI) (k : Nat) (ris : List RI) : Nat → Option RI := fun q => if k ≤ q ∧ q < k + ris.length then ris[q - k]? else ρ q
theorem extN_at {k j : Nat} {ris : List RI} {ri : RI} (h : ris[j]? = some ri) : extN ρ k ris (k + j) = some ri := by
  have : j < ris.length := by
    rcases Nat.lt_or_ge j ris.length with h1 | h1
    · exact h1
    · rw [List.getElem?_eq_none h1] at h; cases h
  unfold extN
  rw [if_pos ⟨by omega, by omega⟩, Nat.add_sub_cancel_left]; exact h
theorem extN_out {k q : Nat} {ris : List RI} (h : ¬ (k ≤ q ∧ q < k + ris.length)) : extN ρ k ris q = ρ q := by unfold extN; rw [if_neg h]
theorem ol_putAll : ∀ (cs : List Cont) {s : St} {k q : Nat}, ol (putAll s k cs).objs q = if k ≤ q ∧ q < k + cs.length then (cs[q - k]?).map .live else ol s.objs q
  | [], s, k, q => by rw [if_neg (by simp only [List.length_nil]; omega)]; rfl
  | c :: cs, s, k, q => by
    rw [putAll, ol_putAll cs, ol_setObj]
    by_cases e : k = q
    · subst e
      rw [if_neg (by omega), if_pos rfl, if_pos ⟨Nat.le_refl _, by simp⟩]
      simp
    · by_cases h1 : k + 1 ≤ q ∧ q < k + 1 + cs.length
      · rw [if_pos h1, if_pos ⟨by omega, by simp; omega⟩]
        rw [show q - k = (q - (k + 1)) + 1 by omega]
        simp
      · rw [if_neg h1, if_neg e, if_neg (by simp only [List.length_cons]; omega)]
theorem cont_putAll {cs : List Cont} {s : St} {k q : Nat} : (putAll s k cs).cont q = if k ≤ q ∧ q < k + cs.length then cs[q - k]? else s.cont q := by
  unfold St.cont
  rw [ol_putAll]
  split
  · rename_i h
    split at h
    · cases hc : cs[q - k]? with
      | none => rw [hc] at h; cases h
      | some x => rw [hc] at h; cases h; rename_i h3; rw [if_pos h3]
    · rename_i h3; rw [if_neg h3]; simp only [h]
  · rename_i h
    split at h
    · rename_i h3
      rw [if_pos h3]
      cases hc : cs[q - k]? with
      | none => rfl
      | some x => rw [hc] at h; exact absurd rfl (h x)
    · rename_i h3
      rw [if_neg h3]
      split
      · rename_i h4; exact absurd h4 (h _)
      · rfl
theorem get_putAll : ∀ (cs : List Cont) {s : St} {k i : Nat}, (putAll s k cs).get i = s.get i
  | [], _, _, _ => rfl
  | c :: cs, s, k, i => get_putAll cs
theorem apart_idx : ∀ (ris : List RI), Apart ris → ∀ {i j : Nat} {x y : RI} {b : Nat}, ris[i]? = some x → ris[j]? = some y → x.blk b → y.blk b → i = j
  | [], _, i, j, x, y, b, h, _, _, _ => by simp at h
  | r :: ris, ⟨ha, hb⟩, i, j, x, y, b, h1, h2, e1, e2 => by
    cases i with
    | zero =>
      simp only [List.getElem?_cons_zero, Option.some.injEq] at h1; subst h1
      cases j with
      | zero => rfl
      | succ j => exact absurd ⟨y, List.mem_of_getElem? (by simpa using h2), e2⟩ (ha b e1)
    | succ i =>
      cases j with
      | zero =>
        simp only [List.getElem?_cons_zero, Option.some.injEq] at h2; subst h2
        exact absurd ⟨x, List.mem_of_getElem? (by simpa using h1), e1⟩ (ha b e2)
      | succ j => rw [apart_idx ris hb (i := i) (j := j) (by simpa using h1) (by simpa using h2) e1 e2]
theorem adds_law (h : RelAt F0 M W0 F ρ s a w) {k : Nat} {cs : List Cont} {ris : List RI} (hl : cs.length = ris.length) (hf : ∀ j, j < ris.length → ol s.objs (k + j) = none) (hap : Apart ris)
    (hb : ∀ b, Blk ris b → ¬ F b ∧ (W0.heap.size ≤ b ∨ M b) ∧ ∀ q c ri, s.cont q = some c → ρ q = some ri → ¬ ri.blk b)
    (hc : ∀ (j : Nat) c, cs[j]? = some c → ∃ ri, ris[j]? = some ri ∧ CRep F w (extN ρ k ris) ri c) : RelAt F0 M W0 F (extN ρ k ris) (putAll s k cs) a w := by
  have hle : ∀ q x, ρ q = some x → extN ρ k ris q = some x := fun q x hq => by
    rw [extN_out]
    · exact hq
    · intro ⟨h1, h2⟩
      have := h.fresh q (by rw [show q = k + (q - k) by omega]; exact hf _ (by omega))
      rw [hq] at this; cases this
  have inr : ∀ {q c}, (putAll s k cs).cont q = some c → (∃ j ri, q = k + j ∧ ris[j]? = some ri ∧ cs[j]? = some c ∧ extN ρ k ris q = some ri ∧ CRep F w (extN ρ k ris) ri c) ∨ (s.cont q = some c ∧ extN ρ k ris q = ρ q) := fun {q c} hq => by
    rw [cont_putAll] at hq
    split at hq
    · rename_i hr
      obtain ⟨ri, h1, h2⟩ := hc _ c hq
      refine .inl ⟨q - k, ri, by omega, h1, hq, ?_, h2⟩
      rw [show q = k + (q - k) by omega]
      exact extN_at h1
    · rename_i hr
      exact .inr ⟨hq, extN_out (by rw [← hl]; exact hr)⟩
  have blkOf : ∀ {j : Nat} {ri : RI} {b : Nat}, ris[j]? = some ri → ri.blk b → Blk ris b := fun {j ri b} h1 h2 => ⟨ri, List.mem_of_getElem? h1, h2⟩
  refine ⟨h.defers, fun i x hx => ?_, fun q c hq => ?_, fun q q' c c' ri ri' b hq hq' h1 h2 hb1 hb2 => ?_, fun q c ri b hq h1 hb1 => ?_, fun q hq => ?_, h.lt, h.base, h.frm, h.kept⟩
  · rw [get_putAll] at hx
    obtain ⟨val, h1, h2⟩ := h.slot i x hx
    exact ⟨val, h1, RepV.mono (fun _ h => h) (fun _ _ _ _ h => h) hle _ _ _ h2⟩
  · rcases inr hq with ⟨j, ri, _, _, _, h3, h4⟩ | ⟨h3, h4⟩
    · exact ⟨ri, h3, h4⟩
    · obtain ⟨ri, h5, h6⟩ := h.cobj q c h3
      exact ⟨ri, hle _ _ h5, h6.mono (fun _ h => h) hle⟩
  · rcases inr hq with ⟨j, r1, e1, g1, _, g3, _⟩ | ⟨g1, g2⟩ <;> rcases inr hq' with ⟨j', r2, e2, k1, _, k3, _⟩ | ⟨k1, k2⟩
    · rw [g3] at h1; cases h1
      rw [k3] at h2; cases h2
      rw [e1, e2, apart_idx ris hap g1 k1 hb1 hb2]
    · rw [g3] at h1; cases h1
      rw [k2] at h2
      exact absurd hb2 ((hb b (blkOf g1 hb1)).2.2 q' c' ri' k1 h2)
    · rw [k3] at h2; cases h2
      rw [g2] at h1
      exact absurd hb1 ((hb b (blkOf k1 hb2)).2.2 q c ri g1 h1)
    · rw [g2] at h1; rw [k2] at h2
      exact h.csep q q' c c' ri ri' b g1 k1 h1 h2 hb1 hb2
  · rcases inr hq with ⟨j, r1, e1, g1, _, g3, _⟩ | ⟨g1, g2⟩
    · rw [g3] at h1; cases h1
      have := hb b (blkOf g1 hb1)
      exact ⟨this.1, this.2.1⟩
    · rw [g2] at h1
      exact h.cown q c ri b g1 h1 hb1
  · rw [ol_putAll] at hq
    split at hq
    · rename_i hr
      have : q - k < cs.length := by omega
      rw [List.getElem?_eq_getElem this] at hq; cases hq
    · rename_i hr
      rw [extN_out (by rw [← hl]; exact hr)]
      exact h.fresh q hq
theorem TRep.to {G G' : Nat → Prop} : ∀ (t : Ty) (v : t.den) (cs : List Value) (ris : List RI), ((∀ b, G b → G' b) ∨ t.flatT = true) → TRep G w t v cs ris → TRep G' w t v cs ris
  | .vec t, xs, cs, ris, hG, ⟨ri, e1, e2, ho⟩ => ⟨ri, e1, e2, by
      rcases hG with hG | hG
      · exact ho.mono hG (fun _ _ h => h)
      · exact ORep.flat0 hG ho⟩
  | .iter, v, cs, ris, hG, h => h
  | .bx t, v, cs, ris, hG, ⟨ri, rs, p, ds, cells, el, e1, e2, h1, h2, h3, h4, h5, h6⟩ => ⟨ri, rs, p, ds, cells, el, e1, e2, h1, h2, h3, h4, h5, TRep.to t v ds rs hG h6⟩
  | .st t, v, cs, ris, hG, h => TRep.to t v cs ris hG h
  | .pair a b, v, cs, ris, hG, ⟨c1, c2, r1, r2, e1, e2, h1, h2⟩ => ⟨c1, c2, r1, r2, e1, e2, TRep.to a _ _ _ (hG.imp id fun h => by simp only [Ty.flatT, Bool.and_eq_true] at h; exact h.1) h1, TRep.to b _ _ _ (hG.imp id fun h => by simp only [Ty.flatT, Bool.and_eq_true] at h; exact h.2) h2⟩
  | .int _, v, cs, ris, hG, ⟨e, hp, h⟩ => ⟨e, hp, h⟩
  | .bool, v, cs, ris, hG, ⟨e, hp, h⟩ => ⟨e, hp, h⟩
  | .str, v, cs, ris, hG, ⟨e, hp, h⟩ => ⟨e, hp, h⟩
  | .unit, v, cs, ris, hG, ⟨e, hp, h⟩ => ⟨e, hp, h⟩
  | .slice _, v, cs, ris, hG, ⟨e, hp, h⟩ => ⟨e, hp, hG.elim (fun hG => Rep.mono hG (fun _ _ _ _ h => h) (fun _ _ h => h) _ _ _ h) (fun hf => by cases hf)⟩
  | .sln _, v, cs, ris, hG, ⟨e, hp, h⟩ => ⟨e, hp, hG.elim (fun hG => Rep.mono hG (fun _ _ _ _ h => h) (fun _ _ h => h) _ _ _ h) (fun hf => by cases hf)⟩
  | .ptr _, v, cs, ris, hG, ⟨e, hp, h⟩ => ⟨e, hp, hG.elim (fun hG => Rep.mono hG (fun _ _ _ _ h => h) (fun _ _ h => h) _ _ _ h) (fun hf => by cases hf)⟩
  | .rad _ _, v, cs, ris, hG, ⟨e, hp, h⟩ => ⟨e, hp, hG.elim (fun hG => Rep.mono hG (fun _ _ _ _ h => h) (fun _ _ h => h) _ _ _ h) (fun hf => by cases hf)⟩
  | .ow _, v, cs, ris, hG, ⟨e, hp, h⟩ => by cases hp
  | .osl _, v, cs, ris, hG, ⟨e, hp, h⟩ => by cases hp
  | .oad _ _, v, cs, ris, hG, ⟨e, hp, h⟩ => by cases hp
  | .clo _ _, v, cs, ris, hG, ⟨e, hp, h⟩ => ⟨e, hp, hG.elim (fun hG => Rep.mono hG (fun _ _ _ _ h => h) (fun _ _ h => h) _ _ _ h) (fun hf => by cases hf)⟩
  | .tup _, v, cs, ris, hG, ⟨e, hp, h⟩ => by cases hp
  | .nils, v, cs, ris, hG, ⟨e, hp, h⟩ => ⟨e, hp, h⟩
  | .nilp, v, cs, ris, hG, ⟨e, hp, h⟩ => ⟨e, hp, h⟩
  | .lost, v, cs, ris, hG, ⟨e, hp, h⟩ => ⟨e, hp, h⟩
  | .any, v, cs, ris, hG, ⟨e, hp, h⟩ => by cases hp
  | .nxt _ _, v, cs, ris, hG, ⟨e, hp, h⟩ => by cases hp
  | .pad _ _, v, cs, ris, hG, ⟨e, hp, h⟩ => by cases hp
theorem TRepV.to {G G' : Nat → Prop} {t : Ty} {v : t.den} {x : Value} {ris : List RI} (hG : (∀ b, G b → G' b) ∨ t.flatT = true) (h : TRepV G w t v x ris) : TRepV G' w t v x ris := by
  unfold TRepV at *
  split at h
  · rename_i hs; rw [if_pos hs]; obtain ⟨cs, e, h⟩ := h; exact ⟨cs, e, TRep.to _ _ _ _ hG h⟩
  · rename_i hs; rw [if_neg hs]; exact ⟨h.1, TRep.to _ _ _ _ hG h.2⟩
theorem V1_to {G G' : Nat → Prop} {t : Ty} {v : t.den} {x : Value} (hG : (∀ b, G b → G' b) ∨ t.flat = true) (h : RepV1 G (mem w) ρ t v x) : RepV1 G' (mem w) ρ t v x := by
  rcases hG with hG | hG
  · exact RepV1.mono hG (fun _ _ _ _ h => h) (fun _ _ h => h) _ _ _ h
  · unfold RepV1 at *
    split at h
    · rename_i hs; rw [if_pos hs]; obtain ⟨cs, e, h⟩ := h; exact ⟨cs, e, Rep.flat _ _ _ hG h⟩
    · rename_i hs; rw [if_neg hs]; exact ⟨h.1, Rep.flat _ _ _ hG h.2⟩
theorem Res1_to {G G' : Nat → Prop} : ∀ {r : RM} {v : r.den} {x : Value} {ris : List RI}, ((∀ b, G b → G' b) ∨ r.flat = true) → ResRep1 G w r v x ris → ResRep1 G' w r v x ris
  | .val t, v, x, ris, hG, ⟨e, hp, h⟩ => ⟨e, hp, V1_to hG h⟩
  | .own t, v, x, ris, hG, h => TRepV.to (t := t) hG h
theorem ResL_to {G G' : Nat → Prop} : ∀ {rs : List RM} {v : RDen rs} {xs : List Value} {ris : List RI}, ((∀ b, G b → G' b) ∨ rs.all RM.flat = true) → ResRepL G w rs v xs ris → ResRepL G' w rs v xs ris
  | [], v, xs, ris, hG, h => h
  | r :: rs, v, xs, ris, hG, ⟨x, l, r1, r2, e1, e2, h1, h2⟩ => ⟨x, l, r1, r2, e1, e2, Res1_to (hG.imp id fun h => by simp only [List.all_cons, Bool.and_eq_true] at h; exact h.1) h1, ResL_to (hG.imp id fun h => by simp only [List.all_cons, Bool.and_eq_true] at h; exact h.2) h2⟩
theorem Res_to {G G' : Nat → Prop} {rs : List RM} {v : RDen rs} {x : Value} {ris : List RI} (hG : (∀ b, G b → G' b) ∨ rs.all RM.flat = true) (h : ResRep G w rs v x ris) : ResRep G' w rs v x ris := by
  match rs, v, h with
  | [], v, h => exact h
  | [r], v, h => exact Res1_to (hG.imp id fun h => by simpa using h) h
  | r :: q :: rs, v, ⟨l, e, h⟩ => exact ⟨l, e, ResL_to hG h⟩
def ResOwn (G : Nat → Prop) (w : World) (ρ : Nat → Option RI) (id : Nat) : (nt : Option NK) → ODen nt → List RI → Prop
  | none, _, rrs => rrs = []
  | some (.cl T), u, rrs => rrs.length = cnt T ∧ ∀ (j : Nat) c, (opnC T u id)[j]? = some c → ∃ ri, rrs[j]? = some ri ∧ CRep G w ρ ri c
  | some (.raw _), _, _ => False
theorem resL_none {G : Nat → Prop} : ∀ {rs : List RM} {v : RDen rs} {xs : List Value} {ris : List RI}, nOwn rs = 0 → ResRepL G w rs v xs ris → ris = []
  | [], v, xs, ris, _, h => h.2
  | .val t :: rs, v, xs, ris, hn, ⟨x, l, r1, r2, e1, e2, h1, h2⟩ => by rw [e2, h1.1, resL_none (rs := rs) hn h2]; rfl
  | .own t :: rs, v, xs, ris, hn, h => by simp [nOwn] at hn
theorem ownTy_none : ∀ (rs : List RM), nOwn rs = 0 → ownTy rs = none
  | [], _ => rfl
  | .val t :: rs, h => ownTy_none rs h
  | .own t :: rs, h => by simp [nOwn] at h
theorem resOwn_none {G : Nat → Prop} {id : Nat} {nt : Option NK} {u : ODen nt} (h : nt = none) : ResOwn G w ρ id nt u [] := by subst h; rfl
theorem res1_law {G : Nat → Prop} {r : RM} {v : r.den} {x : Value} {ris : List RI} (h : ResRep1 G w r v x ris) (hρ : ∀ (j : Nat) ri, ris[j]? = some ri → ρ (id + j) = some ri) : RepV1 G (mem w) ρ (r.ty id) (r.v id v) x := by
  cases r with
  | val t => exact RepV1.pure h.2.1 h.2.2
  | own t => exact (opn_V1 (F := G) h hρ).1
theorem resO_law {G : Nat → Prop} {t : Ty} {v : t.den} {x : Value} {ris : List RI} (h : ResRep1 G w (.own t) v x ris) (hρ : ∀ (j : Nat) ri, ris[j]? = some ri → ρ (id + j) = some ri) : ResOwn G w ρ id (some (.cl t)) v ris := by
  obtain ⟨_, cs, ho⟩ := opn_V1 (F := G) h hρ
  exact ⟨ho.len, ho.conts⟩
theorem resL_law {G : Nat → Prop} : ∀ {rs : List RM} {v : RDen rs} {xs : List Value} {ris : List RI}, nOwn rs ≤ 1 → ResRepL G w rs v xs ris → (∀ (j : Nat) ri, ris[j]? = some ri → ρ (id + j) = some ri) →
    RepVs G (mem w) ρ (resChain id rs) (resChainV id rs v) xs ∧ ResOwn G w ρ id (ownTy rs) (ownV rs v) ris
  | [], v, xs, ris, _, h, _ => ⟨h.1, h.2⟩
  | .val t :: rs, v, xs, ris, hn, ⟨x, l, r1, r2, e1, e2, h1, h2⟩, hρ => by
    have hr1 := h1.1
    subst hr1
    simp only [List.nil_append] at e2
    subst e2
    obtain ⟨g1, g2⟩ := resL_law (rs := rs) hn h2 hρ
    exact ⟨⟨x, l, e1, res1_law (id := id) h1 (fun j ri hj => by simp at hj), g1⟩, g2⟩
  | .own t :: rs, v, xs, ris, hn, ⟨x, l, r1, r2, e1, e2, h1, h2⟩, hρ => by
    have hn0 : nOwn rs = 0 := by simp only [nOwn] at hn; omega
    have hr2 := resL_none hn0 h2
    subst hr2
    rw [List.append_nil] at e2
    subst e2
    obtain ⟨g1, g2⟩ := resL_law (rs := rs) (by omega) h2 (fun j ri hj => by simp at hj)
    exact ⟨⟨x, l, e1, res1_law (id := id) h1 hρ, g1⟩, resO_law h1 hρ⟩
theorem res_law {G : Nat → Prop} {rs : List RM} {v : RDen rs} {x : Value} {ris : List RI} (hn : nOwn rs ≤ 1) (h : ResRep G w rs v x ris) (hρ : ∀ (j : Nat) ri, ris[j]? = some ri → ρ (id + j) = some ri) :
    RepV G (mem w) ρ (resT id rs) (resV id rs v) x ∧ ResOwn G w ρ id (ownTy rs) (ownV rs v) ris := by
  match rs, v, h with
  | [], v, h => exact ⟨trivial, h⟩
  | [.val t], v, h => exact ⟨RepV.of (t := t) (res1_law (r := .val t) (id := id) h hρ), h.1⟩
  | [.own t], v, h => exact ⟨RepV.of (t := opnT t id) (res1_law (r := .own t) (id := id) h hρ), resO_law h hρ⟩
  | r :: q :: rs, v, ⟨l, e, h⟩ =>
    obtain ⟨g1, g2⟩ := resL_law hn h hρ
    exact ⟨⟨l, e, g1⟩, g2⟩
theorem setNK_new {T : Ty} {v : T.den} {k : Nat} : setNK s k (k + 1) (.cl T) v = putAll s k (opnC T v k) := by
  cases T <;> rfl
theorem mem_idsFrom : ∀ {n k q : Nat}, q ∈ idsFrom k n ↔ k ≤ q ∧ q < k + n
  | 0, k, q => by simp only [idsFrom, List.not_mem_nil, false_iff]; omega
  | n + 1, k, q => by simp only [idsFrom, List.mem_cons, mem_idsFrom (n := n)]; omega
structure CallS (Γ : Nat → List Ctr) (f : Nat) (xs : List TV) (id : Nat) (s : St) (e : Eff R) (c : Ctr) (v : PDen c.ps) (al : List Nat) (mo : List (Option Nat × Bool)) (ur : Nat) (base : St) : Prop where
  mem : c ∈ Γ f
  args : argsD s c.ps xs = some (v, al, mo)
  dup : noDup (moRegs mo) = true
  dis : ∀ q ∈ al, q ∉ moRegs mo
  own : nOwn c.rs ≤ 1
  mt : nMut c.ps ≤ 1
  few : nkCnt (ownTy c.rs) ≤ 16
  hur : (if (mutTy c.ps).isSome then mutReg s c.ps xs else some 0) = some ur
  hbase : (if c.rs.all RM.flat && c.ps.all PM.mutFlat then some (kills s mo) else frzs (kills s mo) al) = some base
  eff : e = ⟨resT id c.rs, ownTy c.rs, mutTy c.ps, ur, base, mo.isEmpty && (al.isEmpty || (c.rs.all RM.flat && c.ps.all PM.mutFlat)), (Cnd.look (c.g v)).map fun r => (resV id c.rs r.2, ownV c.rs r.2, r.1)⟩
theorem opCall_some {Γ : Nat → List Ctr} {f : Nat} {xs : List TV} {e : Eff R} (he : opCall Γ f xs id s = some e) : ∃ c v al mo ur base, CallS Γ f xs id s e c v al mo ur base := by
  have key : ∀ l : List Ctr, (∀ c ∈ l, c ∈ Γ f) → opCall.go xs id s l = some e → ∃ c v al mo ur base, CallS Γ f xs id s e c v al mo ur base := by
    intro l
    induction l with
    | nil => intro _ h; simp [opCall.go] at h
    | cons c l ih =>
      intro hm h
      simp only [opCall.go] at h
      cases ha : argsD s c.ps xs with
      | none => simp only [ha] at h; exact ih (fun c hc => hm c (by simp [hc])) h
      | some q =>
        obtain ⟨v, al, mo⟩ := q
        simp only [ha] at h
        split at h
        · rename_i hc
          simp only [Bool.and_eq_true, decide_eq_true_eq] at hc
          split at h
          · rename_i ur base h1 h2
            cases h
            refine ⟨c, v, al, mo, ur, base, hm c (by simp), ha, hc.1.1.1.1.1, fun q hq hq2 => ?_, hc.1.1.1.2, hc.1.1.2, hc.1.2, h1, h2, rfl⟩
            have := List.all_eq_true.1 hc.1.1.1.1.2 q hq
            rw [List.contains_iff_mem.2 hq2] at this
            cases this
          · cases h
        · cases h
  exact key _ (fun c hc => hc) he
theorem mutFlat_of : ∀ (ps : List PM) (T : Ty), ps.all PM.mutFlat = true → mutTy ps = some (.cl T) → T.flatT = true
  | [], t, _, h => by simp [mutTy] at h
  | .mu u :: ps, t, hf, h => by
    simp only [List.all_cons, Bool.and_eq_true, PM.mutFlat] at hf
    simp only [mutTy, Option.some.injEq, NK.cl.injEq] at h
    subst h; exact hf.1
  | .ro u :: ps, t, hf, h => by simp only [List.all_cons, Bool.and_eq_true] at hf; exact mutFlat_of ps t hf.2 (by simpa [mutTy] using h)
  | .own u :: ps, t, hf, h => by simp only [List.all_cons, Bool.and_eq_true] at hf; exact mutFlat_of ps t hf.2 (by simpa [mutTy] using h)
theorem mutRI_mem : ∀ (ps : List PM) (ris : List RI) (ri : RI), mutRI ps ris = some ri → ri ∈ ris
  | [], _, _, h => by simp [mutRI] at h
  | .ro _ :: ps, ris, ri, h => mutRI_mem ps ris ri (by simpa [mutRI] using h)
  | .mu _ :: ps, ris, ri, h => by
    simp only [mutRI] at h
    exact List.mem_of_mem_head? h
  | .own t :: ps, ris, ri, h => List.mem_of_mem_drop (mutRI_mem ps _ ri (by simpa [mutRI] using h))
theorem mutTy_none : ∀ (ps : List PM) (ris : List RI), mutTy ps = none → mutRI ps ris = none
  | [], _, _ => rfl
  | .ro _ :: ps, ris, h => mutTy_none ps ris h
  | .own _ :: ps, ris, h => mutTy_none ps _ h
  | .mu _ :: ps, ris, h => by simp [mutTy] at h
end Go.Vt
