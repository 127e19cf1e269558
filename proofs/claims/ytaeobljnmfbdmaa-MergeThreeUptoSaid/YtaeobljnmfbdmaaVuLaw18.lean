/- Value semantics, part 24: what a loop hands on. -/
import Derived.Test.YtaeobljnmfbdmaaVuLaw17
set_option linter.unusedVariables false
namespace Go.Vu
open Go
variable {P : Program} {tb : Tab} {Γ : Nat → List Ctr} {R : Type} {F0 : Bs} {M F F' : Nat → Prop} {W0 w w' : World} {ρ ρ' : RK → Option RI} {s s' : St} {a : Act}
def rix (ρn : RK → Option RI) (ris : List RI) : RK → Option RI
 | .reg n => ris[n]?
 | .pl p i => ρn (.pl p i)
def alias : Ty → Option Nat
 | .ow c => some c
 | .osl c => some c
 | .oad c _ => some c
 | .pad c _ => some c
 | .mpv c => some c
 | _ => none
theorem alias_facts {T : Ty} {c : Nat} (h : alias T = some c) : cnt T = 0 ∧ ∀ k, opnT T k = T ∧ ∀ v, HEq (opnV T v k) v ∧ opnC T v k = [] := by
 cases T <;> simp only [alias, reduceCtorEq] at h <;> exact ⟨rfl, fun k => ⟨rfl, fun v => ⟨HEq.rfl, rfl⟩⟩⟩
theorem slotV_not {own : List MO} {x : TV} {T : Ty} (h : alias T = none) : slotV s own x T = (match cls s T x with | some (v, _, fr, k) => some (v, fr, k) | none => none) := by
 cases T <;> first | rfl | (simp [alias] at h; done)
def SlotR (F' : Nat → Prop) (w : World) (ρ : RK → Option RI) (own : List MO) (T : Ty) (v : T.den) (val : Value) (r : List RI) : Prop :=
 (TRepV F' w (plR ρ) T v val r) ∨ (r = [] ∧ ∃ c q, alias T = some c ∧ own[c]? = some (.reg q false) ∧ ∀ ρ' : RK → Option RI, ρ' c = ρ q → RepV F' (mem w) ρ' T v val)
def SlotsR (F' : Nat → Prop) (w : World) (ρ : RK → Option RI) (a : Act) (own : List MO) : (sl : List (Nat × Ty)) → SDen sl → List RI → Prop
 | [], _, r => r = []
 | (i, T) :: sl, v, r => ∃ r1 r2, r = r1 ++ r2 ∧ (∃ val, a.tmps[i]? = some val ∧ SlotR F' w ρ own T v.1 val r1 ∧ r1.length = cnt T) ∧ SlotsR F' w ρ a own sl v.2 r2
theorem cls_any {T : Ty} {x : TV} {v : T.den} {own : List MO} {fr : List RQ} {k : Bool} (h : cls s T x = some (v, own, fr, k)) (hT : T.tree = true ∨ isAny T = false) : isAny x.t = false := by
 obtain ⟨xt, xv⟩ := x
 cases xt <;> try rfl
 exfalso
 have key : ∀ {T : Ty} {v : T.den} {fr : List RQ} {k : Bool}, rdV s T ⟨.any, xv⟩ = some (v, fr, k) → T = .any := fun {T v fr k} h => by
  cases T <;> first
   | rfl
   | (simp [rdV, coe, Ty.cell] at h; done)
 cases T <;> first
  | (simp [cls] at h; done)
  | (
    simp only [cls] at h
    split at h
    ·rename_i h1
     have := key h1
     cases this <;> (split at h <;> first | (rename_i hp; cases hp) | cases h)
    ·cases h)
theorem isReg_of {own : List MO} {c q : Nat} (h : isReg own c q = true) : own[c]? = some (.reg q false) := by
 unfold isReg at h
 split at h
 ·rename_i r hr
  have := Nat.eq_of_beq_eq_true h
  subst this; exact hr
 ·cases h
theorem slotV_law (h : RelAt F0 M W0 F ρ s a w) (hF : ∀ b, F b → F' b) {own : List MO} {x : TV} {T : Ty} {v : T.den} {fr : List RQ} (hs : slotV s own x T = some (v, fr, true)) (hfr : Reads s ρ F' fr)
  {val : Value} (hx : RepV F (mem w) ρ x.t x.v val) {l : List MO} (hl : if cnt T = 0 then l = [] else ∃ u f, cls s T x = some (u, l, f)) :
  ∃ r, SlotR F' w ρ own T v val r ∧ OwnRs s ρ l r ∧ r.length = cnt T := by
 cases ha : alias T with
 | none =>
  rw [slotV_not ha] at hs
  split at hs
  ·rename_i v' l' fr' k' hc
   cases hs
   have hk := cls_facts T x hc
   have hll : l = l' := by
    split at hl
    ·rename_i h0
     rw [hl]
     have := hk.cnt
     rw [h0] at this
     exact (List.eq_nil_of_length_eq_zero this).symm
    ·obtain ⟨u, f, h1⟩ := hl
     rw [hc] at h1; cases h1; rfl
   subst hll
   have hany : isAny x.t = false := by
    by_cases hT : isAny T = false
    ·exact cls_any hc (.inr hT)
    ·exfalso
     have : T = .any := by cases T <;> simp [isAny] at hT ⊢
     subst this
     simp only [cls] at hc
     split at hc
     ·split at hc
      ·rename_i hp; cases hp
      ·cases hc
     ·cases hc
   obtain ⟨r, h1, h2⟩ := cls_V (ρp := plR ρ) h (fun _ _ _ h => h) hF hc hany hx hfr
   exact ⟨r, .inl h1, h2, by rw [← h2.length]; exact hk.cnt⟩
  ·cases hs
 | some c =>
  have hc0 := (alias_facts ha).1
  rw [if_pos hc0] at hl
  subst hl
  refine ⟨[], ?_, rfl, by rw [hc0]; rfl⟩
  right
  refine ⟨rfl, c, ?_⟩
  obtain ⟨xt, xv⟩ := x
  cases T <;> simp only [alias, reduceCtorEq, Option.some.injEq] at ha
  ·subst ha
   simp only [slotV] at hs
   split at hs
   ·rename_i q u e
    cases e
    split at hs
    ·rename_i ho
     cases hs
     obtain ⟨h1, ri, h2, h3⟩ := hx
     exact ⟨q, rfl, isReg_of ho, fun ρ' hρ => ⟨h1, ri, hρ.trans h2, h3⟩⟩
    ·cases hs
   ·cases hs
  ·subst ha
   simp only [slotV] at hs
   split at hs
   ·rename_i q u e
    cases e
    split at hs
    ·rename_i ho
     cases hs
     obtain ⟨h1, ri, h2, h3⟩ := hx
     exact ⟨q, rfl, isReg_of ho, fun ρ' hρ => ⟨h1, ri, hρ.trans h2, h3⟩⟩
    ·cases hs
   ·cases hs
  ·subst ha
   simp only [slotV] at hs
   split at hs
   ·rename_i q o' i e
    cases e
    split at hs
    ·rename_i ho
     simp only [Bool.and_eq_true, beq_iff_eq] at ho
     cases hs
     obtain ⟨h1, ri, p, h2, h3⟩ := hx
     obtain ⟨ho1, ho2⟩ := ho
     subst ho2
     exact ⟨q, rfl, isReg_of ho1, fun ρ' hρ => ⟨h1, ri, p, hρ.trans h2, h3⟩⟩
    ·cases hs
   ·cases hs
  ·subst ha
   simp only [slotV] at hs
   split at hs
   ·rename_i q o' i e
    cases e
    split at hs
    ·rename_i ho
     simp only [Bool.and_eq_true, beq_iff_eq] at ho
     cases hs
     obtain ⟨h1, ri, p, h2, h3⟩ := hx
     obtain ⟨ho1, ho2⟩ := ho
     subst ho2
     exact ⟨q, rfl, isReg_of ho1, fun ρ' hρ => ⟨h1, ri, p, hρ.trans h2, h3⟩⟩
    ·cases hs
   ·cases hs
  ·subst ha
   simp only [slotV] at hs
   split at hs
   ·rename_i q u e
    cases e
    split at hs
    ·rename_i ho
     cases hs
     obtain ⟨h1, ri, p, h2, h3⟩ := hx
     exact ⟨q, rfl, isReg_of ho, fun ρ' hρ => ⟨h1, ri, p, hρ.trans h2, h3⟩⟩
    ·cases hs
   ·cases hs
theorem packS_law (h : RelAt F0 M W0 F ρ s a w) (hF : ∀ b, F b → F' b) {own : List MO} : ∀ (sl : List (Nat × Ty)) {os : List MO} {v : SDen sl} {fr : List RQ}, packO s sl = some os → packS s own sl = some (v, fr, true) →
  Reads s ρ F' fr → ∃ ris, OwnRs s ρ os ris ∧ SlotsR F' w ρ a own sl v ris
 | [], os, v, fr, ho, hs, _ => by
  simp only [packO, Option.some.injEq] at ho
  subst ho
  exact ⟨[], rfl, rfl⟩
 | (i, T) :: sl, os, v, fr, ho, hs, hfr => by
  simp only [packO] at ho
  simp only [packS] at hs
  split at ho
  ·cases ho
  ·rename_i os' ho'
   split at hs
   ·rename_i x w' f2 k2 hx hs'
    split at hs
    ·rename_i v1 f1 k1 hv
     simp only [Option.some.injEq, Prod.mk.injEq, Bool.and_eq_true] at hs
     obtain ⟨rfl, rfl, rfl, rfl⟩ := hs
     obtain ⟨rs, g1, g2⟩ := packS_law h hF sl ho' hs' hfr.right
     obtain ⟨val, e1, e2⟩ := h.slot i x hx
     obtain ⟨l, hl, hos⟩ : ∃ l, (if cnt T = 0 then l = [] else ∃ u f, cls s T x = some (u, l, f)) ∧ os = l ++ os' := by
      split at ho
      ·rename_i h0; cases ho; exact ⟨[], by rw [if_pos h0], rfl⟩
      ·rename_i h0
       rw [hx] at ho
       split at ho
       ·rename_i x' hx'
        cases hx'
        split at ho
        ·rename_i u l f hc
         cases ho
         exact ⟨l, by rw [if_neg h0]; exact ⟨u, f, hc⟩, rfl⟩
        ·cases ho
       ·cases ho
     subst hos
     obtain ⟨r, k1, k2, k3⟩ := slotV_law h hF hv hfr.left e2 hl
     exact ⟨r ++ rs, k2.append g1, r, rs, rfl, ⟨val, e1, k1, k3⟩, g2⟩
    ·cases hs
   ·cases hs
structure Unp (F' : Nat → Prop) (w : World) (ρn : RK → Option RI) (a : Act) (all : List RI) (sl : List (Nat × Ty)) (v : SDen sl) (k : Nat) (ris : List RI) : Prop where
 slots : ∀ (i : Nat) val, a.tmps[i]? = some val → RepV F' (mem w) (rix ρn all) (asc (unS sl v k) i).t (asc (unS sl v k) i).v val
 len : (unC sl v k).length = ris.length
 conts : ∀ (j : Nat) c, (unC sl v k)[j]? = some c → ∃ ri, ris[j]? = some ri ∧ CRep F' w (rix ρn all) ri c
theorem heq_rep {G : Nat → Prop} {m : Nat → Nat → Option Value} {T U : Ty} {v : T.den} {u : U.den} {x : Value} (e : U = T) (h : HEq u v) (hr : RepV G m ρ T v x) : RepV G m ρ U u x := by
 subst e; cases h; exact hr
theorem slots_open {ρn : RK → Option RI} {own : List MO} {all : List RI} (ho : OwnRs s ρ own all) : ∀ (sl : List (Nat × Ty)) (v : SDen sl) (ris pre post : List RI), (∀ b ∈ sl, ∀ p ∈ b.2.pls, ∀ i x, ρ (.pl p i) = some x → ρn (.pl p i) = some x) → all = pre ++ ris ++ post → SlotsR F' w ρ a own sl v ris → Unp F' w ρn a all sl v pre.length ris
 | [], v, ris, pre, post, hpn, ha, h => by
  have : ris = [] := h
  subst this
  exact ⟨fun i val _ => trivial, rfl, fun j c hj => by simp [unC] at hj⟩
 | (i, T) :: sl, v, ris, pre, post, hpn, ha, ⟨r1, r2, e, ⟨val, hv, hs, hl⟩, h⟩ => by
  subst e
  have ih := slots_open (ρn := ρn) ho sl v.2 r2 (pre ++ r1) post (fun b hb => hpn b (by simp [hb])) (by rw [ha]; simp) h
  rw [List.length_append, hl] at ih
  have hin : ∀ (j : Nat) ri, r1[j]? = some ri → all[pre.length + j]? = some ri := fun j ri hj => by
   have hlt : j < r1.length := by
    rcases Nat.lt_or_ge j r1.length with h1 | h1
    ·exact h1
    ·rw [List.getElem?_eq_none h1] at hj; cases hj
   rw [ha, List.append_assoc, List.getElem?_append_right (by omega), Nat.add_sub_cancel_left, List.append_assoc, List.getElem?_append_left hlt]; exact hj
  have hfirst : RepV F' (mem w) (rix ρn all) (opnT T pre.length) (opnV T v.1 pre.length) val ∧ (opnC T v.1 pre.length).length = r1.length ∧ ∀ (j : Nat) c, (opnC T v.1 pre.length)[j]? = some c → ∃ ri, r1[j]? = some ri ∧ CRep F' w (rix ρn all) ri c := by
   rcases hs with hs | ⟨e, c, q, hal, hq, hr⟩
   ·obtain ⟨g1, cs, g2⟩ := opn_V1 (ρ := rix ρn all) (ρp := ρn) (fun _ _ _ h => h) (hs.holdP (ρ := plR ρ) (ρ' := ρn) (hpn (i, T) (by simp))) hin
    exact ⟨RepV.of g1, by rw [opnC_length, hl], g2.conts⟩
   ·obtain ⟨f1, f2⟩ := alias_facts hal
    obtain ⟨f3, f4⟩ := f2 pre.length
    obtain ⟨f5, f6⟩ := f4 v.1
    rw [f6]
    have hall : all[c]? = ρ q := by
     have hlt : c < all.length := by
      rw [← ho.length]
      rcases Nat.lt_or_ge c own.length with h1 | h1
      ·exact h1
      ·rw [List.getElem?_eq_none h1] at hq; cases hq
     obtain ⟨o, g1, g2⟩ := ho.get (List.getElem?_eq_getElem hlt)
     rw [hq] at g1; cases g1
     rw [g2.whole q rfl]
     exact List.getElem?_eq_getElem hlt
    exact ⟨heq_rep f3 f5 (hr _ hall), by rw [e]; rfl, fun j c hj => by simp at hj⟩
  refine ⟨fun j val' hj => ?_, by simp [unC, hfirst.2.1, ih.len], fun j c hj => ?_⟩
  ·simp only [unS, asc]
   cases hb : Nat.beq i j with
   | true =>
    have e := Nat.eq_of_beq_eq_true hb
    subst e
    rw [hv] at hj; cases hj
    exact hfirst.1
   | false => exact ih.slots j val' hj
  ·simp only [unC] at hj
   rw [List.getElem?_append] at hj
   split at hj
   ·rename_i hlt
    obtain ⟨ri, g1, g2⟩ := hfirst.2.2 j c hj
    exact ⟨ri, by rw [List.getElem?_append_left (by rw [← hfirst.2.1]; exact hlt)]; exact g1, g2⟩
   ·rename_i hge
    obtain ⟨ri, g1, g2⟩ := ih.conts _ c hj
    rw [hfirst.2.1] at g1 hge
    exact ⟨ri, by rw [List.getElem?_append_right (by omega)]; exact g1, g2⟩
theorem ol_numb : ∀ (l : List Cont) (k q : Nat), ol (numb k l) q = if k ≤ q then (l[q - k]?).map .live else none
 | [], k, q => by simp [numb, ol]
 | c :: l, k, q => by
  simp only [numb, ol]
  by_cases e : k = q
  ·subst e; simp [Nat.beq_refl]
  ·simp only [beq_false e, cond_false, ol_numb l (k + 1) q]
   by_cases h : k ≤ q
   ·rw [if_pos (by omega), if_pos h, show q - k = (q - (k + 1)) + 1 by omega]; simp
   ·rw [if_neg (by omega), if_neg h]
theorem unpack_ol {n : Nat} {t : Tpl} {x : t.X} {q : Nat} : ol (unpack n t x).objs q = ((unC t.sl (xS t.pl x) 0)[q]?).map .live := by
 show ol (numb 0 (unC t.sl (xS t.pl x) 0)) q = _
 rw [ol_numb, if_pos (Nat.zero_le _), Nat.sub_zero]
theorem unpack_cont {n : Nat} {t : Tpl} {x : t.X} {q : Nat} : (unpack n t x).cont q = (unC t.sl (xS t.pl x) 0)[q]? := by
 simp only [St.cont, unpack_ol]
 cases (unC t.sl (xS t.pl x) 0)[q]? <;> rfl
theorem pol_unP : ∀ (pl : List (Nat × Ty)) (v : PlDen pl) (p : Nat), (∀ i, (match pol (unP pl v) p with | some q => q.cont i | none => none) = pCont pl v p i) ∧ (match pol (unP pl v) p with | some q => some q.l.length | none => none) = pLen pl v p
 | [], v, p => ⟨fun _ => rfl, rfl⟩
 | (k, t) :: pl, v, p => by
  simp only [unP, pol, pCont, pLen]
  cases hb : Nat.beq k p with
  | true => exact ⟨fun _ => rfl, rfl⟩
  | false => exact pol_unP pl v.2 p
theorem unpack_pl {n : Nat} {t : Tpl} {x : t.X} {p i : Nat} : (unpack n t x).cont (.pl p i) = pCont t.pl (xP t.pl x) p i := (pol_unP t.pl (xP t.pl x) p).1 i
theorem unpack_pln {n : Nat} {t : Tpl} {x : t.X} {p : Nat} : (unpack n t x).pln p = pLen t.pl (xP t.pl x) p := (pol_unP t.pl (xP t.pl x) p).2
theorem xS_mk {sl : List (Nat × Ty)} {pl : List (Nat × Ty)} {v : SDen sl} {u : PlDen pl} : xS pl (mkX pl v u) = v := by cases pl <;> rfl
theorem xP_mk {sl : List (Nat × Ty)} {pl : List (Nat × Ty)} {v : SDen sl} {u : PlDen pl} : xP (sl := sl) pl (mkX pl v u) = u := by cases pl <;> rfl
theorem unFn_law (h : RelAt F0 M W0 F ρ s a w) {F' : Nat → Prop} {ρ' : RK → Option RI} : ∀ (fns : List (Nat × Nat)) (l : List (Nat × TV)), packFn s fns = true →
  (∀ (j : Nat) val, a.tmps[j]? = some val → RepV F' (mem w) ρ' (asc l j).t (asc l j).v val) → ∀ (j : Nat) val, a.tmps[j]? = some val → RepV F' (mem w) ρ' (asc (unFn fns l) j).t (asc (unFn fns l) j).v val
 | [], l, _, hl => hl
 | (i, f) :: r, l, hp, hl => fun j val hv => by
  simp only [packFn, Bool.and_eq_true] at hp
  simp only [unFn, asc]
  cases hb : Nat.beq i j with
  | false => exact unFn_law h r l hp.2 hl j val hv
  | true =>
   have e := Nat.eq_of_beq_eq_true hb
   subst e
   obtain ⟨h1, _⟩ := hp
   split at h1
   ·rename_i f' u hx
    have e := Nat.eq_of_beq_eq_true h1
    subst e
    obtain ⟨val', e1, hr⟩ := h.slot i _ hx
    rw [hv] at e1; cases e1
    obtain ⟨h2, ds, h3, h4⟩ := hr
    exact ⟨h2, ds, h3, h4⟩
   ·cases h1
def handN (F0 : Bs) (pl : List (Nat × Ty)) (ρ : RK → Option RI) : RK → Option RI
 | .reg _ => none
 | .pl p i => if inPl p pl = true then ρ (.pl p i) else F0.ρ (.pl p i)
theorem plIn_law (h : RelAt F0 M W0 F ρ s a w) {pl : List (Nat × Ty)} {t : Ty} (hp : plIn s pl t = true) : ∀ p ∈ t.pls, ∀ i, handN F0 pl ρ (.pl p i) = ρ (.pl p i) := fun p hm i => by
 have := List.all_eq_true.1 hp p hm
 simp only [handN]
 cases hi : inPl p pl with
 | true => rw [if_pos rfl]
 | false =>
  rw [if_neg (by simp)]
  rw [hi, Bool.false_or] at this
  have hn : s.pln p = none := by
   unfold St.pln
   cases hq : pol s.pls p with
   | none => rfl
   | some q => rw [hq] at this; cases this
  exact (h.pfor p i hn).symm
theorem pack_law' (h : RelAt F0 M W0 F ρ s a w) {n : Nat} {t : Tpl} {x : t.X} (hp : pack n s t = some x) : ∃ F' own ris rp, RelAt F0 M W0 F' (rix (handN F0 t.pl ρ) ris) (unpack n t x) a w ∧ OwnRs s ρ own ris ∧ SlotsR F' w ρ a own t.sl (xS t.pl x) ris ∧ PRep F' w (plR ρ) t.pl (xP t.pl x) rp ∧
  Apart (ris ++ [rp]) ∧ (∀ b, Blk (ris ++ [rp]) b → ¬ F' b ∧ (W0.heap.size ≤ b ∨ M b)) ∧ (∀ b ∈ t.sl, plIn s t.pl b.2 = true) ∧ ∀ b ∈ t.pl, plIn s t.pl b.2 = true := by
 unfold pack at hp
 split at hp
 ·rename_i own hg
  split at hp
  ·rename_i hn
   split at hp
   ·rename_i v fr k pv hs hpp
    split at hp
    ·rename_i hc
     cases k with
     | false => cases hp
     | true =>
     cases hp
     simp only [Bool.and_eq_true, beq_iff_eq, List.isEmpty_iff] at hc hn
     obtain ⟨⟨⟨⟨⟨⟨⟨hd, hd2⟩, hdis⟩, hfn⟩, hpd⟩, hsl⟩, hplt⟩, hfp⟩ := hc
     have hsl := List.all_eq_true.1 hsl
     have hplt := List.all_eq_true.1 hplt
     have hdis := List.all_eq_true.1 hdis
     have hfp := List.all_eq_true.1 hfp
     let F' : Nat → Prop := fun b => F b ∨ ∃ Q ∈ fr, ∃ k c ri, Q.has k ∧ s.cont k = some c ∧ ρ k = some ri ∧ ri.blk b
     have hF : ∀ b, F b → F' b := fun b hb => .inl hb
     have hfr : Reads s ρ F' fr := fun Q hQ k c ri b h1 h2 h3 h4 => .inr ⟨Q, hQ, k, c, ri, h1, h2, h3, h4⟩
     obtain ⟨ris, ho, hslr⟩ := packS_law h hF t.sl hg hs hfr
     obtain ⟨rp, hpr, hpo⟩ := packP_law (ρp := plR ρ) h (fun _ _ => rfl) hF hpp
     have hu := slots_open (ρn := handN F0 t.pl ρ) ho t.sl v ris [] [] (fun b hb p hm i x hx => by rw [plIn_law h (hsl b hb) p hm]; exact hx) (by simp) hslr
     have hap := own_apart h ho hd (by rw [hd2]; rfl)
     have hpc := packP_cont t.pl hpp
     have xs1 : xS t.pl (mkX (sl := t.sl) t.pl v pv) = v := xS_mk
     have xp1 : xP t.pl (mkX (sl := t.sl) t.pl v pv) = pv := xP_mk
     have getR : ∀ {r : Nat} {c : Cont}, (unpack n t (mkX t.pl v pv)).cont r = some c → ∃ ri, ris[r]? = some ri ∧ CRep F' w (rix (handN F0 t.pl ρ) ris) ri c := fun {r c} hr => by
      rw [unpack_cont, xs1] at hr
      exact hu.conts r c hr
     have getP : ∀ {p i : Nat} {c : Cont}, (unpack n t (mkX t.pl v pv)).cont (.pl p i) = some c → inPl p t.pl = true ∧ s.cont (.pl p i) = some c := fun {p i c} hr => by
      rw [unpack_pl, xp1, (hpc p).1] at hr
      split at hr
      ·exact ⟨by assumption, hr⟩
      ·cases hr
     have hblk : ∀ b, Blk ris b → ¬ F' b ∧ (W0.heap.size ≤ b ∨ M b) := fun b hb => by
      obtain ⟨o, q, c', rq, g0, g1, g2, g3, g4⟩ := own_blk ho b hb
      obtain ⟨m1, m2⟩ := h.cown q c' rq b g2 g3 g4
      refine ⟨fun hb => ?_, m2⟩
      rcases hb with hb | ⟨Q, hQ, q', c2, ri2, n0, n1, n2, n3⟩
      ·exact m1 hb
      ·have := h.csep q q' c' c2 rq ri2 b g2 n1 g3 n2 g4 n3
       subst this
       exact off_not (hdis Q hQ) n0 g0 g1
     have hobj : ∀ {p i c ri b}, inPl p t.pl = true → s.cont (.pl p i) = some c → ρ (.pl p i) = some ri → ri.blk b → ¬ F' b ∧ (W0.heap.size ≤ b ∨ M b) ∧ ¬ Blk ris b := fun {p i c ri b} h0 h1 h2 h3 => by
      obtain ⟨m1, m2⟩ := h.cown _ c ri b h1 h2 h3
      refine ⟨fun hb => ?_, m2, fun hb => ?_⟩
      ·rcases hb with hb | ⟨Q, hQ, q', c2, ri2, n0, n1, n2, n3⟩
       ·exact m1 hb
       ·have := h.csep _ q' c c2 ri ri2 b h1 n1 h2 n2 h3 n3
        subst this
        cases Q with
        | reg r => cases n0
        | pool p' =>
         obtain ⟨i', e⟩ := n0
         cases e
         have := hfp _ hQ
         simp only [h0] at this
         cases this
      ·obtain ⟨o, q, c', rq, g0, g1, g2, g3, g4⟩ := own_blk ho b hb
       have := h.csep _ q c c' ri rq b h1 g2 h2 g3 h3 g4
       subst this
       have := has_moPls g0 g1
       rw [hd2] at this; cases this
     have hrp : ∀ b, rp.blk b → ¬ F' b ∧ (W0.heap.size ≤ b ∨ M b) ∧ ¬ Blk ris b := fun b hb => by
      obtain ⟨q, c, rk, g1, g2, g3, g4⟩ := hpo.blk b hb
      obtain ⟨p, hp, i, rfl⟩ := g1
      exact hobj (inPl_mem.2 hp) g2 g3 g4
     refine ⟨F', own, ris, rp, ⟨h.defers, ?_, ?_, ?_, ?_, ?_, ?_, ?_, ?_, fun b hb => .inl (h.base b hb), ?_, h.kept⟩, ho, by rw [xs1]; exact hslr, by rw [xp1]; exact hpr,
      Apart.append.2 ⟨hap, ⟨fun b _ hb => (by obtain ⟨ri, hm, _⟩ := hb; cases hm), trivial⟩, fun b hb hb2 => (by obtain ⟨ri, hm, hb2⟩ := hb2; simp only [List.mem_singleton] at hm; subst hm; exact (hrp b hb2).2.2 hb)⟩,
      fun b hb => (Blk.append.1 hb).elim (hblk b) (fun hb2 => by obtain ⟨ri, hm, hb2⟩ := hb2; simp only [List.mem_singleton] at hm; subst hm; exact ⟨(hrp b hb2).1, (hrp b hb2).2.1⟩), hsl, hplt⟩
     ·intro i x hx
      have hlt := St.lt_get hx
      rw [St.get_lt hlt] at hx
      cases hx
      obtain ⟨val, e, _⟩ := h.slot i _ (St.get_lt (by rw [hn]; exact hlt))
      refine ⟨val, e, ?_⟩
      have := unFn_law h t.fn _ hfn hu.slots i val e
      show RepV F' (mem w) _ (asc (unFn t.fn (unS t.sl (xS t.pl (mkX t.pl v pv)) 0)) i).t (asc (unFn t.fn (unS t.sl (xS t.pl (mkX t.pl v pv)) 0)) i).v val
      rw [xs1]; exact this
     ·intro r c hr
      cases r with
      | pl p i =>
       obtain ⟨g1, g2⟩ := getP hr
       obtain ⟨ri, g3, g4⟩ := h.cobj _ _ g2
       refine ⟨ri, ?_, ?_⟩
       ·show handN F0 t.pl ρ (.pl p i) = some ri
        simp only [handN, if_pos g1]; exact g3
       ·have hct : ∃ tt xs, c = .arr ⟨tt, xs⟩ ∧ (p, tt) ∈ t.pl := by
         rw [unpack_pl] at hr
         exact pCont_ty hr
        obtain ⟨tt, xs, rfl, hm⟩ := hct
        have g4 : ORep F w ρ ri ⟨tt, xs⟩ := g4
        exact ORep.holdP (ρ := ρ) (fun p' hp' i x hx => by
         show handN F0 t.pl ρ (.pl p' i) = some x
         rw [plIn_law h (hplt (p, tt) hm) p' hp']; exact hx) (g4.mono hF (fun _ _ h => h))
      | reg r =>
       obtain ⟨ri, h1, h2⟩ := getR hr
       exact ⟨ri, h1, h2⟩
     ·intro r r' c c' ri ri' b hr hr' h1 h2 hb hb'
      cases r with
      | pl p i =>
       obtain ⟨g1, g2⟩ := getP hr
       have h1 : handN F0 t.pl ρ (.pl p i) = some ri := h1
       simp only [handN, if_pos g1] at h1
       cases r' with
       | pl p' i' =>
        obtain ⟨k1, k2⟩ := getP hr'
        have h2 : handN F0 t.pl ρ (.pl p' i') = some ri' := h2
        simp only [handN, if_pos k1] at h2
        exact h.csep _ _ c c' ri ri' b g2 k2 h1 h2 hb hb'
       | reg r' => exact absurd ⟨ri', List.mem_of_getElem? h2, hb'⟩ (hobj g1 g2 h1 hb).2.2
      | reg r =>
       cases r' with
       | pl p' i' =>
        obtain ⟨k1, k2⟩ := getP hr'
        have h2 : handN F0 t.pl ρ (.pl p' i') = some ri' := h2
        simp only [handN, if_pos k1] at h2
        exact absurd ⟨ri, List.mem_of_getElem? h1, hb⟩ (hobj k1 k2 h2 hb').2.2
       | reg r' => exact congrArg RK.reg (apart_idx ris hap h1 h2 hb hb')
     ·intro r c ri b hr h1 hb
      cases r with
      | pl p i =>
       obtain ⟨g1, g2⟩ := getP hr
       have h1 : handN F0 t.pl ρ (.pl p i) = some ri := h1
       simp only [handN, if_pos g1] at h1
       have := hobj g1 g2 h1 hb
       exact ⟨this.1, this.2.1⟩
      | reg r => exact hblk b ⟨ri, List.mem_of_getElem? h1, hb⟩
     ·intro r hr
      rw [unpack_ol, xs1] at hr
      have : (unC t.sl v 0).length ≤ r := by
       rcases Nat.lt_or_ge r (unC t.sl v 0).length with h2 | h2
       ·rw [List.getElem?_eq_getElem h2] at hr; cases hr
       ·exact h2
      have hl := hu.len
      simp only [List.length_nil] at hl
      exact List.getElem?_eq_none (by omega)
     ·intro p n' i hn' hi
      rw [unpack_pln, xp1, (hpc p).2] at hn'
      split at hn'
      ·rename_i hp'
       show handN F0 t.pl ρ (.pl p i) = none
       simp only [handN, if_pos hp']
       exact h.pfresh p n' i hn' hi
      ·cases hn'
     ·intro p i hn'
      rw [unpack_pln, xp1, (hpc p).2] at hn'
      show handN F0 t.pl ρ (.pl p i) = _
      simp only [handN]
      split at hn'
      ·rename_i hp'
       rw [if_pos hp']
       exact h.pfor p i hn'
      ·rename_i hp'
       rw [if_neg hp']
     ·intro b hb
      rcases hb with hb | ⟨Q, hQ, q', c2, ri2, n0, n1, n2, n3⟩
      ·exact h.lt b hb
      ·obtain ⟨ri3, n5, n6⟩ := h.cobj q' c2 n1
       rw [n2] at n5; cases n5
       exact n6.blkLt n3
     ·intro b hb
      rcases hb with hb | ⟨Q, hQ, q', c2, ri2, n0, n1, n2, n3⟩
      ·exact h.frm b hb
      ·exact .inr (h.cown q' c2 ri2 b n1 n2 n3).2
    ·cases hp
   ·cases hp
  ·cases hp
 ·cases hp
theorem pack_law (h : RelAt F0 M W0 F ρ s a w) {n : Nat} {t : Tpl} {x : t.X} (hp : pack n s t = some x) : ∃ F' ρ', RelAt F0 M W0 F' ρ' (unpack n t x) a w := by
 obtain ⟨F', own, ris, rp, h1, _⟩ := pack_law' h hp
 exact ⟨F', _, h1⟩
end Go.Vu
