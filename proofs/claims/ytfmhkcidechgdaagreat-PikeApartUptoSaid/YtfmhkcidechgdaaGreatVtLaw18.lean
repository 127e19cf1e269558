/- Value semantics, part 24: what a loop hands on. -/
import Derived.Test.YtfmhkcidechgdaaGreatVtLaw17
set_option linter.unusedVariables false
namespace Go.Vt
open Go
variable {P : Program} {tb : Tab} {Γ : Nat → List Ctr} {R : Type} {F0 M F F' : Nat → Prop} {W0 w w' : World} {ρ ρ' : Nat → Option RI} {s s' : St} {a : Act}
def alias : Ty → Option Nat
  | .ow c => some c
  | .osl c => some c
  | .oad c _ => some c
  | .pad c _ => some c
  | _ => none
theorem alias_facts {T : Ty} {c : Nat} (h : alias T = some c) : cnt T = 0 ∧ ∀ k, opnT T k = T ∧ ∀ v, HEq (opnV T v k) v ∧ opnC T v k = [] := by
  cases T <;> simp only [alias, reduceCtorEq] at h <;> exact ⟨rfl, fun k => ⟨rfl, fun v => ⟨HEq.rfl, rfl⟩⟩⟩
theorem slotV_not {own : List (Option Nat × Bool)} {x : TV} {T : Ty} (h : alias T = none) : slotV s own x T = (match cls s T x with | some (v, _, fr) => some (v, fr) | none => none) := by
  cases T <;> first | rfl | (simp [alias] at h; done)
def SlotR (F' : Nat → Prop) (w : World) (ρ : Nat → Option RI) (own : List (Option Nat × Bool)) (T : Ty) (v : T.den) (val : Value) (r : List RI) : Prop :=
  (TRepV F' w T v val r) ∨ (r = [] ∧ ∃ c q, alias T = some c ∧ own[c]? = some (some q, false) ∧ ∀ ρ' : Nat → Option RI, ρ' c = ρ q → RepV F' (mem w) ρ' T v val)
def SlotsR (F' : Nat → Prop) (w : World) (ρ : Nat → Option RI) (a : Act) (own : List (Option Nat × Bool)) : (sl : List (Nat × Ty)) → SDen sl → List RI → Prop
  | [], _, r => r = []
  | (i, T) :: sl, v, r => ∃ r1 r2, r = r1 ++ r2 ∧ (∃ val, a.tmps[i]? = some val ∧ SlotR F' w ρ own T v.1 val r1 ∧ r1.length = cnt T) ∧ SlotsR F' w ρ a own sl v.2 r2
theorem cls_any {T : Ty} {x : TV} {v : T.den} {own : List (Option Nat × Bool)} {fr : List Nat} (h : cls s T x = some (v, own, fr)) (hT : T.tree = true ∨ isAny T = false) : isAny x.t = false := by
  obtain ⟨xt, xv⟩ := x
  cases xt <;> try rfl
  exfalso
  have key : ∀ {T : Ty} {v : T.den} {fr : List Nat}, rdV s T ⟨.any, xv⟩ = some (v, fr) → T = .any := fun {T v fr} h => by
    cases T <;> first
      | rfl
      | (simp [rdV, coe, Ty.cell] at h; done)
  cases T <;> first
    | (simp [cls] at h; done)
    | (simp only [cls] at h
       split at h
       · rename_i h1
         have := key h1
         cases this <;> (split at h <;> first | (rename_i hp; cases hp) | cases h)
       · cases h)
theorem slotV_law (h : RelAt F0 M W0 F ρ s a w) (hF : ∀ b, F b → F' b) {own : List (Option Nat × Bool)} {x : TV} {T : Ty} {v : T.den} {fr : List Nat} (hs : slotV s own x T = some (v, fr)) (hfr : ∀ q ∈ fr, ∀ ri b, ρ q = some ri → ri.blk b → F' b)
    {val : Value} (hx : RepV F (mem w) ρ x.t x.v val) {l : List (Option Nat × Bool)} (hl : if cnt T = 0 then l = [] else ∃ u f, cls s T x = some (u, l, f)) :
    ∃ r, SlotR F' w ρ own T v val r ∧ OwnRs s ρ l r ∧ r.length = cnt T := by
  cases ha : alias T with
  | none =>
    rw [slotV_not ha] at hs
    split at hs
    · rename_i v' l' fr' hc
      cases hs
      have hk := cls_facts T x hc
      have hll : l = l' := by
        split at hl
        · rename_i h0
          rw [hl]
          have := hk.cnt
          rw [h0] at this
          exact (List.eq_nil_of_length_eq_zero this).symm
        · obtain ⟨u, f, h1⟩ := hl
          rw [hc] at h1; cases h1; rfl
      subst hll
      have hany : isAny x.t = false := by
        by_cases hT : isAny T = false
        · exact cls_any hc (.inr hT)
        · exfalso
          have : T = .any := by cases T <;> simp [isAny] at hT ⊢
          subst this
          simp only [cls] at hc
          split at hc
          · split at hc
            · rename_i hp; cases hp
            · cases hc
          · cases hc
      obtain ⟨r, h1, h2⟩ := cls_V h hF hc hany hx hfr
      exact ⟨r, .inl h1, h2, by rw [← h2.length]; exact hk.cnt⟩
    · cases hs
  | some c =>
    have hc0 := (alias_facts ha).1
    rw [if_pos hc0] at hl
    subst hl
    refine ⟨[], ?_, rfl, by rw [hc0]; rfl⟩
    right
    refine ⟨rfl, c, ?_⟩
    have mono := fun (t : Ty) (v : t.den) (x : Value) (h : RepV F (mem w) ρ t v x) => RepV.mono (F' := F') (m' := mem w) (ρ' := ρ) hF (fun _ _ _ _ h => h) (fun _ _ h => h) t v x h
    obtain ⟨xt, xv⟩ := x
    cases T <;> simp only [alias, reduceCtorEq, Option.some.injEq] at ha
    · subst ha
      simp only [slotV] at hs
      split at hs
      · rename_i q u e
        cases e
        split at hs
        · rename_i ho
          cases hs
          obtain ⟨h1, ri, h2, h3⟩ := hx
          exact ⟨q, rfl, ho, fun ρ' hρ => ⟨h1, ri, hρ.trans h2, h3⟩⟩
        · cases hs
      · cases hs
    · subst ha
      simp only [slotV] at hs
      split at hs
      · rename_i q u e
        cases e
        split at hs
        · rename_i ho
          cases hs
          obtain ⟨h1, ri, h2, h3⟩ := hx
          exact ⟨q, rfl, ho, fun ρ' hρ => ⟨h1, ri, hρ.trans h2, h3⟩⟩
        · cases hs
      · cases hs
    · subst ha
      simp only [slotV] at hs
      split at hs
      · rename_i q o' i e
        cases e
        split at hs
        · rename_i ho
          simp only [Bool.and_eq_true, decide_eq_true_eq, beq_iff_eq] at ho
          cases hs
          obtain ⟨h1, ri, p, h2, h3⟩ := hx
          obtain ⟨ho1, ho2⟩ := ho
          subst ho2
          exact ⟨q, rfl, ho1, fun ρ' hρ => ⟨h1, ri, p, hρ.trans h2, h3⟩⟩
        · cases hs
      · cases hs
    · subst ha
      simp only [slotV] at hs
      split at hs
      · rename_i q o' i e
        cases e
        split at hs
        · rename_i ho
          simp only [Bool.and_eq_true, decide_eq_true_eq, beq_iff_eq] at ho
          cases hs
          obtain ⟨h1, ri, p, h2, h3⟩ := hx
          obtain ⟨ho1, ho2⟩ := ho
          subst ho2
          exact ⟨q, rfl, ho1, fun ρ' hρ => ⟨h1, ri, p, hρ.trans h2, h3⟩⟩
        · cases hs
      · cases hs
theorem packS_law (h : RelAt F0 M W0 F ρ s a w) (hF : ∀ b, F b → F' b) {own : List (Option Nat × Bool)} : ∀ (sl : List (Nat × Ty)) {os : List (Option Nat × Bool)} {v : SDen sl} {fr : List Nat}, packO s sl = some os → packS s own sl = some (v, fr) →
    (∀ q ∈ fr, ∀ ri b, ρ q = some ri → ri.blk b → F' b) → ∃ ris, OwnRs s ρ os ris ∧ SlotsR F' w ρ a own sl v ris
  | [], os, v, fr, ho, hs, _ => by
    simp only [packO, Option.some.injEq] at ho
    subst ho
    exact ⟨[], rfl, rfl⟩
  | (i, T) :: sl, os, v, fr, ho, hs, hfr => by
    simp only [packO] at ho
    simp only [packS] at hs
    split at ho
    · cases ho
    · rename_i os' ho'
      split at hs
      · rename_i x w' f2 hx hs'
        split at hs
        · rename_i v1 f1 hv
          cases hs
          obtain ⟨rs, g1, g2⟩ := packS_law h hF sl ho' hs' (fun q hq => hfr q (by simp [hq]))
          obtain ⟨val, e1, e2⟩ := h.slot i x hx
          obtain ⟨l, hl, hos⟩ : ∃ l, (if cnt T = 0 then l = [] else ∃ u f, cls s T x = some (u, l, f)) ∧ os = l ++ os' := by
            split at ho
            · rename_i h0; cases ho; exact ⟨[], by rw [if_pos h0], rfl⟩
            · rename_i h0
              rw [hx] at ho
              split at ho
              · rename_i x' hx'
                cases hx'
                split at ho
                · rename_i u l f hc
                  cases ho
                  exact ⟨l, by rw [if_neg h0]; exact ⟨u, f, hc⟩, rfl⟩
                · cases ho
              · cases ho
          subst hos
          obtain ⟨r, k1, k2, k3⟩ := slotV_law h hF hv (fun q hq => hfr q (by simp [hq])) e2 hl
          exact ⟨r ++ rs, k2.append g1, r, rs, rfl, ⟨val, e1, k1, k3⟩, g2⟩
        · cases hs
      · cases hs
theorem slotV_live {own : List (Option Nat × Bool)} {x : TV} {T : Ty} {v : T.den} {fr : List Nat} (hs : slotV s own x T = some (v, fr)) : ∀ q ∈ fr, ∃ c, s.cont q = some c := by
  cases ha : alias T with
  | none =>
    rw [slotV_not ha] at hs
    split at hs
    · rename_i hc; cases hs; exact (cls_facts T x hc).live
    · cases hs
  | some c =>
    intro q hq
    obtain ⟨xt, xv⟩ := x
    cases T <;> simp only [alias, reduceCtorEq, Option.some.injEq] at ha <;> simp only [slotV] at hs <;> (split at hs <;> first | (split at hs <;> first | (cases hs; cases hq) | cases hs) | cases hs)
theorem packS_live {own : List (Option Nat × Bool)} : ∀ (sl : List (Nat × Ty)) {v : SDen sl} {fr : List Nat}, packS s own sl = some (v, fr) → ∀ q ∈ fr, ∃ c, s.cont q = some c
  | [], v, fr, hs => by cases hs; intro q hq; cases hq
  | (i, T) :: sl, v, fr, hs => by
    simp only [packS] at hs
    split at hs
    · rename_i hs'
      split at hs
      · rename_i hv
        cases hs
        intro q hq
        rcases List.mem_append.1 hq with hq | hq
        · exact slotV_live hv q hq
        · exact packS_live sl hs' q hq
      · cases hs
    · cases hs
structure Unp (F' : Nat → Prop) (w : World) (a : Act) (all : List RI) (sl : List (Nat × Ty)) (v : SDen sl) (k : Nat) (ris : List RI) : Prop where
  slots : ∀ (i : Nat) val, a.tmps[i]? = some val → RepV F' (mem w) (fun c => all[c]?) (asc (unS sl v k) i).t (asc (unS sl v k) i).v val
  len : (unC sl v k).length = ris.length
  conts : ∀ (j : Nat) c, (unC sl v k)[j]? = some c → ∃ ri, ris[j]? = some ri ∧ CRep F' w (fun c => all[c]?) ri c
theorem heq_rep {G : Nat → Prop} {m : Nat → Nat → Option Value} {T U : Ty} {v : T.den} {u : U.den} {x : Value} (e : U = T) (h : HEq u v) (hr : RepV G m ρ T v x) : RepV G m ρ U u x := by
  subst e; cases h; exact hr
theorem slots_open {own : List (Option Nat × Bool)} {all : List RI} (ho : OwnRs s ρ own all) : ∀ (sl : List (Nat × Ty)) (v : SDen sl) (ris pre post : List RI), all = pre ++ ris ++ post → SlotsR F' w ρ a own sl v ris → Unp F' w a all sl v pre.length ris
  | [], v, ris, pre, post, ha, h => by
    have : ris = [] := h
    subst this
    exact ⟨fun i val _ => trivial, rfl, fun j c hj => by simp [unC] at hj⟩
  | (i, T) :: sl, v, ris, pre, post, ha, ⟨r1, r2, e, ⟨val, hv, hs, hl⟩, h⟩ => by
    subst e
    have ih := slots_open ho sl v.2 r2 (pre ++ r1) post (by rw [ha]; simp) h
    rw [List.length_append, hl] at ih
    have hin : ∀ (j : Nat) ri, r1[j]? = some ri → all[pre.length + j]? = some ri := fun j ri hj => by
      have hlt : j < r1.length := by
        rcases Nat.lt_or_ge j r1.length with h1 | h1
        · exact h1
        · rw [List.getElem?_eq_none h1] at hj; cases hj
      rw [ha, List.append_assoc, List.getElem?_append_right (by omega), Nat.add_sub_cancel_left, List.append_assoc, List.getElem?_append_left hlt]; exact hj
    have hfirst : RepV F' (mem w) (fun c => all[c]?) (opnT T pre.length) (opnV T v.1 pre.length) val ∧ (opnC T v.1 pre.length).length = r1.length ∧ ∀ (j : Nat) c, (opnC T v.1 pre.length)[j]? = some c → ∃ ri, r1[j]? = some ri ∧ CRep F' w (fun c => all[c]?) ri c := by
      rcases hs with hs | ⟨e, c, q, hal, hq, hr⟩
      · obtain ⟨g1, cs, g2⟩ := opn_V1 (ρ := fun c => all[c]?) hs hin
        exact ⟨RepV.of g1, by rw [opnC_length, hl], g2.conts⟩
      · obtain ⟨f1, f2⟩ := alias_facts hal
        obtain ⟨f3, f4⟩ := f2 pre.length
        obtain ⟨f5, f6⟩ := f4 v.1
        rw [f6]
        have hall : all[c]? = ρ q := by
          have hlt : c < all.length := by
            rw [← ho.length]
            rcases Nat.lt_or_ge c own.length with h1 | h1
            · exact h1
            · rw [List.getElem?_eq_none h1] at hq; cases hq
          obtain ⟨o, g1, g2⟩ := ho.get (List.getElem?_eq_getElem hlt)
          rw [hq] at g1; cases g1
          rw [g2.whole q rfl]
          exact List.getElem?_eq_getElem hlt
        exact ⟨heq_rep f3 f5 (hr _ hall), by rw [e]; rfl, fun j c hj => by simp at hj⟩
    refine ⟨fun j val' hj => ?_, by simp [unC, hfirst.2.1, ih.len], fun j c hj => ?_⟩
    · simp only [unS, asc]
      cases hb : Nat.beq i j with
      | true =>
        have e := Nat.eq_of_beq_eq_true hb
        subst e
        rw [hv] at hj; cases hj
        exact hfirst.1
      | false => exact ih.slots j val' hj
    · simp only [unC] at hj
      rw [List.getElem?_append] at hj
      split at hj
      · rename_i hlt
        obtain ⟨ri, g1, g2⟩ := hfirst.2.2 j c hj
        exact ⟨ri, by rw [List.getElem?_append_left (by rw [← hfirst.2.1]; exact hlt)]; exact g1, g2⟩
      · rename_i hge
        obtain ⟨ri, g1, g2⟩ := ih.conts _ c hj
        rw [hfirst.2.1] at g1 hge
        exact ⟨ri, by rw [List.getElem?_append_right (by omega)]; exact g1, g2⟩
theorem ol_numb : ∀ (l : List Cont) (k q : Nat), ol (numb k l) q = if k ≤ q then (l[q - k]?).map .live else none
  | [], k, q => by simp [numb, ol]
  | c :: l, k, q => by
    simp only [numb, ol]
    by_cases e : k = q
    · subst e; simp [Nat.beq_refl]
    · simp only [beq_false e, cond_false, ol_numb l (k + 1) q]
      by_cases h : k ≤ q
      · rw [if_pos (by omega), if_pos h, show q - k = (q - (k + 1)) + 1 by omega]; simp
      · rw [if_neg (by omega), if_neg h]
theorem unpack_ol {n : Nat} {t : Tpl} {x : t.X} {q : Nat} : ol (unpack n t x).objs q = ((unC t.sl x 0)[q]?).map .live := by
  show ol (numb 0 (unC t.sl x 0)) q = _
  rw [ol_numb, if_pos (Nat.zero_le _), Nat.sub_zero]
theorem unpack_cont {n : Nat} {t : Tpl} {x : t.X} {q : Nat} : (unpack n t x).cont q = (unC t.sl x 0)[q]? := by
  unfold St.cont
  rw [unpack_ol]
  cases (unC t.sl x 0)[q]? <;> rfl
theorem unFn_law (h : RelAt F0 M W0 F ρ s a w) {F' : Nat → Prop} {ρ' : Nat → Option RI} : ∀ (fns : List (Nat × Nat)) (l : List (Nat × TV)), packFn s fns = true →
    (∀ (j : Nat) val, a.tmps[j]? = some val → RepV F' (mem w) ρ' (asc l j).t (asc l j).v val) → ∀ (j : Nat) val, a.tmps[j]? = some val → RepV F' (mem w) ρ' (asc (unFn fns l) j).t (asc (unFn fns l) j).v val
  | [], l, _, hl => hl
  | (i, f) :: r, l, hp, hl => fun j val hv => by
    simp only [packFn, Bool.and_eq_true] at hp
    simp only [unFn, asc]
    cases hb : Nat.beq i j with
    | false => exact unFn_law h r l hp.2 hl j val hv
    | true =>
      have e := Nat.eq_of_beq_eq_true hb
      subst e
      obtain ⟨h1, _⟩ := hp
      split at h1
      · rename_i f' u hx
        have e := Nat.eq_of_beq_eq_true h1
        subst e
        obtain ⟨val', e1, hr⟩ := h.slot i _ hx
        rw [hv] at e1; cases e1
        obtain ⟨h2, ds, h3, h4⟩ := hr
        exact ⟨h2, ds, h3, h4⟩
      · cases h1
theorem pack_law' (h : RelAt F0 M W0 F ρ s a w) {n : Nat} {t : Tpl} {x : t.X} (hp : pack n s t = some x) : ∃ F' own ris, RelAt F0 M W0 F' (fun c => ris[c]?) (unpack n t x) a w ∧ OwnRs s ρ own ris ∧ SlotsR F' w ρ a own t.sl x ris ∧ Apart ris ∧ ∀ b, Blk ris b → ¬ F' b ∧ (W0.heap.size ≤ b ∨ M b) := by
  unfold pack at hp
  split at hp
  · rename_i own hg
    split at hp
    · rename_i hn
      split at hp
      · rename_i v fr hs
        split at hp
        · rename_i hc
          cases hp
          simp only [Bool.and_eq_true, beq_iff_eq, List.all_eq_true, Bool.not_eq_true', List.contains_eq_mem, decide_eq_false_iff_not] at hc hn
          obtain ⟨⟨hd, hdis⟩, hfn⟩ := hc
          let F' : Nat → Prop := fun b => F b ∨ ∃ q ∈ fr, ∃ c ri, s.cont q = some c ∧ ρ q = some ri ∧ ri.blk b
          have hF : ∀ b, F b → F' b := fun b hb => .inl hb
          have frl := packS_live t.sl hs
          have hfr : ∀ q ∈ fr, ∀ ri b, ρ q = some ri → ri.blk b → F' b := fun q hq ri b h1 h2 => by
            obtain ⟨c, hc⟩ := frl q hq
            exact .inr ⟨q, hq, c, ri, hc, h1, h2⟩
          obtain ⟨ris, ho, hsl⟩ := packS_law h hF t.sl hg hs hfr
          have hu := slots_open ho t.sl x ris [] [] (by simp) hsl
          have hap := own_apart h ho hd
          have getC : ∀ {r : Nat} {c : Cont}, (unpack n t x).cont r = some c → ∃ ri, ris[r]? = some ri ∧ CRep F' w (fun c => ris[c]?) ri c := fun {r c} hr => by
            rw [unpack_cont] at hr
            exact hu.conts r c hr
          have hblk : ∀ b, Blk ris b → ¬ F' b ∧ (W0.heap.size ≤ b ∨ M b) := fun b hb => by
            obtain ⟨q, c', rq, g1, g2, g3, g4⟩ := own_blk ho b hb
            obtain ⟨m1, m2⟩ := h.cown q c' rq b g2 g3 g4
            refine ⟨fun hb => ?_, m2⟩
            rcases hb with hb | ⟨q', hq', c2, ri2, n1, n2, n3⟩
            · exact m1 hb
            · have := h.csep q q' c' c2 rq ri2 b g2 n1 g3 n2 g4 n3
              subst this
              exact hdis q hq' g1
          refine ⟨F', own, ris, ⟨h.defers, ?_, ?_, ?_, ?_, ?_, ?_, fun b hb => .inl (h.base b hb), ?_, h.kept⟩, ho, hsl, hap, hblk⟩
          · intro i x hx
            have hlt := St.lt_get hx
            rw [St.get_lt hlt] at hx
            cases hx
            obtain ⟨val, e, _⟩ := h.slot i _ (St.get_lt (by rw [hn]; exact hlt))
            exact ⟨val, e, unFn_law h t.fn _ hfn hu.slots i val e⟩
          · intro r c hr
            obtain ⟨ri, h1, h2⟩ := getC hr
            exact ⟨ri, h1, h2⟩
          · intro r r' c c' ri ri' b hr hr' h1 h2 hb hb'
            exact apart_idx ris hap h1 h2 hb hb'
          · intro r c ri b hr h1 hb
            exact hblk b ⟨ri, List.mem_of_getElem? h1, hb⟩
          · intro r hr
            rw [unpack_ol] at hr
            have : (unC t.sl x 0).length ≤ r := by
              rcases Nat.lt_or_ge r (unC t.sl x 0).length with h2 | h2
              · rw [List.getElem?_eq_getElem h2] at hr; cases hr
              · exact h2
            have hl := hu.len
            simp only [List.length_nil] at hl
            exact List.getElem?_eq_none (by omega)
          · intro b hb
            rcases hb with hb | ⟨q', hq', c2, ri2, n1, n2, n3⟩
            · exact h.lt b hb
            · obtain ⟨ri3, n5, n6⟩ := h.cobj q' c2 n1
              rw [n2] at n5; cases n5
              exact n6.blkLt n3
          · intro b hb
            rcases hb with hb | ⟨q', hq', c2, ri2, n1, n2, n3⟩
            · exact h.frm b hb
            · exact .inr (h.cown q' c2 ri2 b n1 n2 n3).2
        · cases hp
      · cases hp
    · cases hp
  · cases hp
theorem pack_law (h : RelAt F0 M W0 F ρ s a w) {n : Nat} {t : Tpl} {x : t.X} (hp : pack n s t = some x) : ∃ F' ρ', RelAt F0 M W0 F' ρ' (unpack n t x) a w := by
  obtain ⟨F', own, ris, h1, _⟩ := pack_law' h hp
  exact ⟨F', _, h1⟩
end Go.Vt
