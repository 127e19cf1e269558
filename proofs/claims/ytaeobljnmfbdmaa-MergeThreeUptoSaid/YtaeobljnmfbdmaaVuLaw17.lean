/- Value semantics, part 23: regions of operations. -/
import Derived.Test.YtaeobljnmfbdmaaVuLaw17p
import Derived.OrdersHeld
set_option linter.unusedVariables false
namespace Go.Vu
open Go
variable {P : Program} {tb : Tab} {Γ : Nat → List Ctr} {R : Type} {F0 : Bs} {M F : Nat → Prop} {W0 w w' : World} {ρ : RK → Option RI} {s s' : St} {a : Act} {ops : Array Oper} {base n : Nat}
def St.Eqv (s s' : St) : Prop := s.n = s'.n ∧ (∀ i, s.get i = s'.get i) ∧ (∀ r, ol s.objs r = ol s'.objs r) ∧ s.pls = s'.pls
theorem St.Eqv.refl (s : St) : s.Eqv s := ⟨rfl, fun _ => rfl, fun _ => rfl, rfl⟩
theorem St.Eqv.symm {s s' : St} (h : s.Eqv s') : s'.Eqv s := ⟨h.1.symm, fun i => (h.2.1 i).symm, fun r => (h.2.2.1 r).symm, h.2.2.2.symm⟩
theorem St.Eqv.trans {s s' s2 : St} (h : s.Eqv s') (k : s'.Eqv s2) : s.Eqv s2 := ⟨h.1.trans k.1, fun i => (h.2.1 i).trans (k.2.1 i), fun r => (h.2.2.1 r).trans (k.2.2.1 r), h.2.2.2.trans k.2.2.2⟩
theorem St.Eqv.cont {s s' : St} (h : s.Eqv s') (r : RK) : s.cont r = s'.cont r := by
 cases r with
 | reg r => simp only [St.cont, h.2.2.1]
 | pl p i => simp only [St.cont, h.2.2.2]
theorem St.Eqv.fresh {s s' : St} (h : s.Eqv s') (r : Nat) : isFresh s r = isFresh s' r := by unfold isFresh; rw [h.2.2.1]
theorem St.Eqv.ev {s s' : St} (h : s.Eqv s') (x : Operand) : ev s x = ev s' x := by
 cases x <;> try rfl
 rename_i t
 simp only [Vu.ev, h.2.1 t]
theorem St.Eqv.put {s s' : St} (h : s.Eqv s') (d : Option Nat) (x : TV) : (s.put d x).Eqv (s'.put d x) := by
 cases d with
 | none => exact h
 | some d => exact ⟨h.1, fun i => by rw [St.get_put, St.get_put, h.1, h.2.1 i], h.2.2⟩
inductive PN where
 | no | raw (t : Ty) | cl (t : Ty)
def PN.nk : PN → Option NK
 | .no => none
 | .raw t => some (.raw t)
 | .cl t => some (.cl t)
theorem plain_pn {nt : Option NK} (h : plainNK nt = true) : ∃ n : PN, nt = n.nk := by
 match nt, h with
 | none, _ => exact ⟨.no, rfl⟩
 | some (.raw t), _ => exact ⟨.raw t, rfl⟩
 | some (.cl t), _ => exact ⟨.cl t, rfl⟩
theorem pn_plain (n : PN) : plainNK n.nk = true := by cases n <;> rfl
def contsN : (nt : PN) → ODen nt.nk → Nat → List Cont
 | .no, _, _ => []
 | .raw t, v, _ => [.box ⟨t, v⟩]
 | .cl T, v, k => opnC T v k
def setN (s : St) (k : Nat) (nt : PN) (v : ODen nt.nk) : St := setO s k (k + 1) nt.nk v
theorem setN_put {k : Nat} {nt : PN} {v : ODen nt.nk} : setN s k nt v = putAll s k (contsN nt v k) := by
 cases nt with
 | no => rfl
 | raw t => rfl
 | cl T => exact setNK_new
theorem contsN_length {k : Nat} : ∀ {nt : PN} {v : ODen nt.nk}, (contsN nt v k).length = nkCnt nt.nk
 | .no, _ => rfl
 | .raw t, _ => rfl
 | .cl T, v => opnC_length T v k
theorem mem_newIds {k q : Nat} : ∀ {nt : Option NK}, q ∈ newIds k nt ↔ k ≤ q ∧ q < k + nkCnt nt
 | none => by simp only [newIds, List.not_mem_nil, nkCnt, false_iff]; omega
 | some (.raw t) => by simp only [newIds, List.mem_singleton, nkCnt]; omega
 | some (.cl T) => mem_idsFrom
 | some (.pl t) => by simp only [newIds, List.not_mem_nil, nkCnt, false_iff]; omega
 | some (.clp ps T) => mem_idsFrom
theorem ol_setN {k q : Nat} {nt : PN} {v : ODen nt.nk} : ol (setN s k nt v).objs q = if q ∈ newIds k nt.nk then ((contsN nt v k)[q - k]?).map .live else ol s.objs q := by
 rw [setN_put, ol_putAll, contsN_length]
 simp only [mem_newIds]
theorem setN_get {k i : Nat} {nt : PN} {v : ODen nt.nk} : (setN s k nt v).get i = s.get i := by rw [setN_put, get_putAll]
theorem putAll_n : ∀ (l : List Cont) {s : St} {k : Nat}, (putAll s k l).n = s.n
 | [], _, _ => rfl
 | _ :: l, _, _ => putAll_n l
theorem setN_n {k : Nat} {nt : PN} {v : ODen nt.nk} : (setN s k nt v).n = s.n := by rw [setN_put, putAll_n]
theorem setN_pls {k : Nat} {nt : PN} {v : ODen nt.nk} : (setN s k nt v).pls = s.pls := by rw [setN_put, putAll_pls]
theorem St.Eqv.setN {s s' : St} (h : s.Eqv s') (id : Nat) (nt : PN) (xs : ODen nt.nk) : (setN s id nt xs).Eqv (setN s' id nt xs) :=
 ⟨by rw [setN_n, setN_n, h.1], fun i => by rw [setN_get, setN_get, h.2.1], fun r => by rw [ol_setN, ol_setN, h.2.2.1], by rw [setN_pls, setN_pls, h.2.2.2]⟩
theorem RelAt.eqv (h : RelAt F0 M W0 F ρ s a w) (e : s.Eqv s') : RelAt F0 M W0 F ρ s' a w :=
 h.less (fun i => (e.2.1 i).symm) (fun r c hr => by rw [e.cont r]; exact hr) (fun r hr => by rw [e.2.2.1 r]; exact hr) (fun p => by simp only [St.pln, e.2.2.2])
def gBool (ops : Array Oper) (s : St) (o : Oper) : Option Bool := match o.guard with
 | none => some true
 | some (j, want) => match (ops[j]?).bind (·.dst) with
  | none => none
  | some d => match s.get d with
   | some ⟨.bool, b⟩ => some (b == want)
   | some ⟨.tup .unit, _⟩ => some false
   | _ => none
theorem St.Eqv.killO {s s' : St} (h : s.Eqv s') (k : Option Nat) : (killO s k).Eqv (killO s' k) := by
 cases k with
 | none => exact h
 | some r => exact ⟨h.1, h.2.1, fun q => by simp only [Vu.killO, ol_setObj, h.2.2.1], h.2.2.2⟩
inductive StepS (tb : Tab) (Γ : Nat → List Ctr) (R : Type) (ops : Array Oper) (base : Nat) (still ap : Bool) (U : Nat → List Nat) (i : Nat) (o : Oper) (s s' : St) : Prop
 | skip (sr : St) (hr : s.Eqv sr) (hg : gBool ops s o = some false) (hs : s' = sr.put o.dst ⟨.tup .unit, ()⟩)
 | go (sr : St) (hr : s.Eqv sr) (e : Eff R) (v : e.T.den × ODen e.nt × ODen e.ut) (hg : gBool ops s o = some true) (he : opD tb Γ o (base + 32 * i) sr = some e)
   (hst : still = true → (e.still o sr = true ∨ (ap = true ∧ e.ut = none ∧ appOwn sr base o = true)) ∧ plainNK e.nt = true) (hu : still = true → ap = true → ∀ q ∈ opUses sr base o, q ∈ U i) (hf : freshE sr (base + 32 * i) e = true)
   (hv : e.k.c = some v) (hs : s' = e.out o.dst (base + 32 * i) v)
theorem StepS.mono {U U' : Nat → List Nat} {still ap : Bool} {i : Nat} {o : Oper} (h : StepS tb Γ R ops base still ap U i o s s') (hU : ∀ q ∈ U i, q ∈ U' i) : StepS tb Γ R ops base still ap U' i o s s' := by
 cases h with
 | skip sr hr hg hs => exact .skip sr hr hg hs
 | go sr hr e v hg he hst hu hf hv hs => exact .go sr hr e v hg he hst (fun h1 h2 q hq => hU q (hu h1 h2 q hq)) hf hv hs
inductive Run (tb : Tab) (Γ : Nat → List Ctr) (R : Type) (ops : Array Oper) (base n : Nat) (ap : Bool) (U : Nat → List Nat) : List Oper → Nat → St → St → Prop
 | nil (k s) : Run tb Γ R ops base n ap U [] k s s
 | cons {o l k s s1 s2} (h : StepS tb Γ R ops base (decide (k < n)) ap U k o s s1) (r : Run tb Γ R ops base n ap U l (k + 1) s1 s2) : Run tb Γ R ops base n ap U (o :: l) k s s2
theorem Run.mono {U U' : Nat → List Nat} {ap : Bool} {l : List Oper} {k : Nat} (h : Run tb Γ R ops base n ap U l k s s') : (∀ i, k ≤ i → ∀ q ∈ U i, q ∈ U' i) → Run tb Γ R ops base n ap U' l k s s' := by
 induction h with
 | nil k s => intro _; exact .nil k s
 | @cons o l k s s1 s2 h1 _ ih => intro hU; exact .cons (h1.mono (hU k (Nat.le_refl _))) (ih fun i hi => hU i (by omega))
theorem put_same {d : Nat} {x : TV} (h : s.get d = some x) : s.Eqv (s.put (some d) x) := by
 refine ⟨rfl, fun i => ?_, fun _ => rfl, rfl⟩
 rw [St.get_put]
 split
 ·rename_i e
  subst e
  rw [if_pos (St.lt_get h), h]
 ·rfl
theorem semOp_run {o : Oper} {still ap : Bool} {i : Nat} {us : List Nat} {K : List Nat → St → Option R} {r : R} {sr : St} (hr : s.Eqv sr) (hg : gBool ops s o = some true) (h : semOp tb Γ o base i still ap us sr K = some r) :
  ∃ u s', (∀ U : Nat → List Nat, (∀ q ∈ u, q ∈ U i) → StepS tb Γ R ops base still ap U i o s s') ∧ K (u ++ us) s' = some r ∧ ∀ q ∈ u, q ∉ us := by
 unfold semOp at h
 split at h
 ·cases h
 ·rename_i e he
  split at h
  ·cases h
  ·rename_i hc
   simp only [Bool.not_eq_true, Bool.or_eq_false_iff] at hc
   obtain ⟨⟨hc1, hc2⟩, hc3⟩ := hc
   rw [e.k.law] at h
   cases hv : e.k.c with
   | none => rw [hv] at h; cases h
   | some v =>
    rw [hv] at h
    have hst : still = true → (e.still o sr = true ∨ (ap = true ∧ e.ut = none ∧ appOwn sr base o = true)) ∧ plainNK e.nt = true := fun hs => by
     subst hs
     have hpn : plainNK e.nt = true := by
      cases h8 : plainNK e.nt with
      | true => rfl
      | false => simp [h8] at hc1
     refine ⟨?_, hpn⟩
     cases h9 : e.still o sr with
     | true => exact .inl rfl
     | false => right; simpa [h9, hpn, and_assoc] using hc1
    have hfr : freshE sr (base + 32 * i) e = true := by simpa using hc2
    cases hb : ap && still with
    | false =>
     refine ⟨[], _, fun U _ => .go sr hr e v hg he hst (fun h1 h2 => ?_) hfr hv rfl, ?_, fun q hq => by cases hq⟩
     ·rw [h1, h2] at hb; cases hb
     ·simpa [hb] using h
    | true =>
     refine ⟨opUses sr base o, _, fun U hU => .go sr hr e v hg he hst (fun _ _ => hU) hfr hv rfl, ?_, fun q hq hqs => ?_⟩
     ·simpa [hb] using h
     ·rw [hb, Bool.true_and, List.any_eq_false] at hc3
      exact hc3 q hq (by simpa using hqs)
def ApartU (U : Nat → List Nat) : Prop := ∀ i j q, i ≠ j → q ∈ U i → q ∉ U j
theorem semOps_run {ap : Bool} {K : St → Option R} {r : R} : ∀ (l : List Oper) (k : Nat) (us : List Nat) (s : St), semOps tb Γ ops base n ap l k us s K = some r →
  ∃ (U : Nat → List Nat) (s' : St), Run tb Γ R ops base n ap U l k s s' ∧ K s' = some r ∧ (∀ i q, q ∈ U i → q ∉ us) ∧ ApartU U ∧ ∀ i, i < k → U i = []
 | [], k, us, s, h => ⟨fun _ => [], s, .nil k s, h, fun _ _ h => (by cases h), fun _ _ _ _ h => (by cases h), fun _ _ => rfl⟩
 | o :: l, k, us, s, h => by
  have go : ∀ sr, s.Eqv sr → gBool ops s o = some true → (semOp tb Γ o base k (decide (k < n)) ap us sr fun us s' => semOps tb Γ ops base n ap l (k + 1) us s' K) = some r →
    ∃ (U : Nat → List Nat) (s' : St), Run tb Γ R ops base n ap U (o :: l) k s s' ∧ K s' = some r ∧ (∀ i q, q ∈ U i → q ∉ us) ∧ ApartU U ∧ ∀ i, i < k → U i = [] := fun sr hr e h => by
   obtain ⟨u, s1, h1, h2, h3⟩ := semOp_run (ops := ops) hr e h
   obtain ⟨U, s2, h4, h5, h6, h7, h8⟩ := semOps_run l (k + 1) (u ++ us) s1 h2
   refine ⟨fun i => if i = k then u else U i, s2, .cons (h1 _ fun q hq => by simpa using hq) (h4.mono fun i hi q hq => by rw [if_neg (by omega)]; exact hq), h5, fun i q hq => ?_, fun i j q hij hi hj => ?_, fun i hi => ?_⟩
   ·by_cases e : i = k
    ·simp only [if_pos e] at hq; exact h3 q hq
    ·simp only [if_neg e] at hq; exact fun hqs => h6 i q hq (List.mem_append_right _ hqs)
   ·by_cases e : i = k
    ·simp only [if_pos e] at hi
     simp only [if_neg (show ¬ j = k by omega)] at hj
     exact h6 j q hj (List.mem_append_left _ hi)
    ·simp only [if_neg e] at hi
     by_cases e' : j = k
     ·simp only [if_pos e'] at hj
      exact h6 i q hi (List.mem_append_left _ hj)
     ·simp only [if_neg e'] at hj
      exact h7 i j q hij hi hj
   ·show (if i = k then u else U i) = []
    rw [if_neg (by omega)]; exact h8 i (by omega)
  have sk : ∀ sr, s.Eqv sr → gBool ops s o = some false → semOps tb Γ ops base n ap l (k + 1) us (sr.put o.dst ⟨.tup .unit, ()⟩) K = some r →
    ∃ (U : Nat → List Nat) (s' : St), Run tb Γ R ops base n ap U (o :: l) k s s' ∧ K s' = some r ∧ (∀ i q, q ∈ U i → q ∉ us) ∧ ApartU U ∧ ∀ i, i < k → U i = [] := fun sr hr e h => by
   obtain ⟨U, s2, h4, h5, h6, h7, h8⟩ := semOps_run l (k + 1) us _ h
   exact ⟨U, s2, .cons (.skip sr hr e rfl) h4, h5, h6, h7, fun i hi => h8 i (by omega)⟩
  unfold semOps at h
  split at h
  ·rename_i hg
   exact go s (St.Eqv.refl s) (by unfold gBool; rw [hg]) h
  ·rename_i j want hg
   split at h
   ·cases h
   ·rename_i d hd
    split at h
    ·rename_i b hb
     have hgb : gBool ops s o = some (b == want) := by unfold gBool; rw [hg]; simp only [hd, hb]
     have hq := put_same hb
     cases b <;> cases want <;> simp only [cond_true, cond_false, if_true, if_false, Bool.false_eq_true] at h
     ·exact go _ hq hgb h
     ·exact sk _ hq hgb h
     ·exact sk _ hq hgb h
     ·exact go _ hq hgb h
    ·rename_i u hb
     have hgb : gBool ops s o = some false := by unfold gBool; rw [hg]; simp only [hd, hb]
     exact sk s (St.Eqv.refl s) hgb h
    ·cases h
theorem gBool_wanted (h : RelAt F0 M W0 F ρ s a w) {o : Oper} {b : Bool} (hg : gBool ops s o = some b) : Region.wanted o (yielded ops a.tmps) = b := by
 unfold gBool at hg
 unfold Region.wanted
 split at hg
 ·rename_i e; rw [e]; cases hg; rfl
 ·rename_i j want e
  rw [e]
  split at hg
  ·cases hg
  ·rename_i d hd
   split at hg
   ·rename_i c hc
    cases hg
    obtain ⟨val, h1, h2⟩ := h.slot d _ hc
    have e2 : val = .bool c := by simpa [Rep] using h2.2
    simp only [yielded, hd, Option.bind_some, h1, e2]
    cases c <;> cases want <;> rfl
   ·rename_i u hc
    cases hg
    obtain ⟨val, h1, vs, h2, h3⟩ := h.slot d _ hc
    have e3 : vs = [] := h3
    subst e3
    subst h2
    simp only [yielded, hd, Option.bind_some, h1]
    cases want <;> rfl
   ·cases hg
theorem step_wp (hT : TabOk P tb) (hΓ : CtrsOk P Γ) (h : RelAt F0 M W0 F ρ s a w) {still ap : Bool} {U : Nat → List Nat} {i : Nat} {o : Oper} (hs : StepS tb Γ R ops base still ap U i o s s') {K : Act → World → Prop} {Q : Exit → Act → World → Prop}
  (hK : ∀ F' ρ' val w', RelAt F0 M W0 F' ρ' s' (a.put o.dst val) w' → K (a.put o.dst val) w') : if Region.wanted o (yielded ops a.tmps) then o.wp P a w K Q else K (a.put o.dst undef) w := by
 cases hs with
 | skip sr hr hg hs =>
  rw [gBool_wanted h hg, if_neg (by simp)]
  subst hs
  exact hK _ _ _ _ ((h.eqv hr).put o.dst _ undef ⟨[], rfl, rfl⟩)
 | go sr hr e v hg he hst hu hf hv hs =>
  rw [gBool_wanted h hg, if_pos rfl]
  subst hs
  exact op_wp hT hΓ (h.eqv hr) hf he hv hK
def KeepsL (T : Act → Prop) (l : List Oper) : Prop := ∀ o ∈ l, ∀ a val, T a → T (a.put o.dst val)
theorem run_wp (hT : TabOk P tb) (hΓ : CtrsOk P Γ) {T : Act → Prop} {Q : Exit → Act → World → Prop} {s' : St} (hQ : ∀ F' ρ' a' w', RelAt F0 M W0 F' ρ' s' a' w' → T a' → Q .normal a' w') :
  ∀ {ap : Bool} {U : Nat → List Nat} {l : List Oper} {k : Nat} {s : St}, Run tb Γ R ops base n ap U l k s s' → KeepsL T l → ∀ {F ρ a w}, RelAt F0 M W0 F ρ s a w → T a → wpList P ops Q l a w := by
 intro ap U l k s hr
 induction hr with
 | nil k s => intro _ F ρ a w h ht; exact wpList_nil (hQ _ _ _ _ h ht)
 | cons h1 _ ih => intro hk F ρ a w h ht; exact wpList_step fun K hK => step_wp hT hΓ h h1 fun F' ρ' val w' h' => hK _ _ (ih hQ (fun o ho => hk o (by simp [ho])) h' (hk _ (by simp) _ val ht))
theorem wp_exists {o : Oper} {K : Act → World → Prop} (h : o.wp P a w K fun _ _ _ => False) : ∃ a' w', K a' w' := by
 unfold Oper.wp at h
 generalize (execOp a.eval o).run P w = r at h
 cases r with
 | ok x w1 =>
  cases x <;> simp only [Oper.upon] at h
  case value v => exact ⟨_, _, h⟩
  case skip => exact ⟨_, _, h⟩
  case defer d => exact ⟨_, _, h⟩
  case enter f args =>
   obtain ⟨e, w2, fr, h1, _⟩ := h []
   cases e with
   | returned v => exact ⟨_, _, h1⟩
   | panicked c => exact h1.elim
   | outgrown => obtain ⟨_, _, h2⟩ := h1; exact h2.elim
  case row row args =>
   obtain ⟨v, w2, h1, _⟩ := h (Frame.enter P 0 #[] .normal) []
   exact ⟨_, _, h1⟩
 | halt x w1 => cases x <;> simp only [Oper.upon] at h
def Wf (F0 : Bs) (M : Nat → Prop) (W0 : World) (s : St) : Prop := ∃ F ρ a w, RelAt F0 M W0 F ρ s a w
theorem Wf.step (hT : TabOk P tb) (hΓ : CtrsOk P Γ) (h : Wf F0 M W0 s) {still ap : Bool} {U : Nat → List Nat} {i : Nat} {o : Oper} (hs : StepS tb Γ R ops base still ap U i o s s') : Wf F0 M W0 s' := by
 obtain ⟨F, ρ, a, w, h⟩ := h
 have := step_wp (K := fun a w => ∃ F ρ, RelAt F0 M W0 F ρ s' a w) (Q := fun _ _ _ => False) hT hΓ h hs fun F' ρ' val w' h' => ⟨F', ρ', h'⟩
 split at this
 ·obtain ⟨a', w', F', ρ', h'⟩ := wp_exists this
  exact ⟨F', ρ', a', w', h'⟩
 ·obtain ⟨F', ρ', h'⟩ := this
  exact ⟨F', ρ', _, _, h'⟩
theorem rep_regs {m : Nat → Nat → Option Value} : ∀ (t : Ty) (v : t.den) (cs : List Value), Rep F m ρ t v cs → ∀ r ∈ t.regs, ∃ ri, ρ r = some ri
 | .st t, v, cs, h, r, hr => rep_regs t v cs h r hr
 | .pair a b, v, cs, ⟨c1, c2, e, h1, h2⟩, r, hr => by
  rcases List.mem_append.1 hr with hr | hr
  ·exact rep_regs a _ _ h1 r hr
  ·exact rep_regs b _ _ h2 r hr
 | .clo f t, v, cs, ⟨ds, e, h1⟩, r, hr => rep_regs t v ds h1 r hr
 | .ow q, v, cs, ⟨ri, h, _⟩, r, hr => by simp only [Ty.regs, List.mem_singleton] at hr; subst hr; exact ⟨ri, h⟩
 | .osl q, v, cs, ⟨ri, h, _⟩, r, hr => by simp only [Ty.regs, List.mem_singleton] at hr; subst hr; exact ⟨ri, h⟩
 | .oad q o, v, cs, ⟨ri, p, h, _⟩, r, hr => by simp only [Ty.regs, List.mem_singleton] at hr; subst hr; exact ⟨ri, h⟩
 | .psl _, v, cs, h, r, hr => by cases hr
 | .pdd _ _, v, cs, h, r, hr => by cases hr
 | .pad q o, v, cs, ⟨ri, p, h, _⟩, r, hr => by simp only [Ty.regs, List.mem_singleton] at hr; subst hr; exact ⟨ri, h⟩
 | .mpv q, v, cs, ⟨ri, p, h, _⟩, r, hr => by simp only [Ty.regs, List.mem_singleton] at hr; subst hr; exact ⟨ri, h⟩
 | .tup _, v, cs, h, r, hr => h.elim
 | .int _, v, cs, h, r, hr => by cases hr
 | .bool, v, cs, h, r, hr => by cases hr
 | .str, v, cs, h, r, hr => by cases hr
 | .unit, v, cs, h, r, hr => by cases hr
 | .slice _, v, cs, h, r, hr => by cases hr
 | .sln _, v, cs, h, r, hr => by cases hr
 | .ptr _, v, cs, h, r, hr => by cases hr
 | .rad _ _, v, cs, h, r, hr => by cases hr
 | .nils, v, cs, h, r, hr => by cases hr
 | .nilp, v, cs, h, r, hr => by cases hr
 | .lost, v, cs, h, r, hr => by cases hr
 | .any, v, cs, h, r, hr => by cases hr
 | .vec _, v, cs, h, r, hr => by cases hr
 | .bx _, v, cs, h, r, hr => by cases hr
 | .iter, v, cs, h, r, hr => by cases hr
 | .nxt _ _, v, cs, h, r, hr => by cases hr
theorem repV1_regs {m : Nat → Nat → Option Value} {t : Ty} {v : t.den} {x : Value} (h : RepV1 F m ρ t v x) : ∀ r ∈ t.regs, ∃ ri, ρ r = some ri := by
 unfold RepV1 at h
 split at h
 ·obtain ⟨cs, _, h⟩ := h; exact rep_regs _ _ _ h
 ·exact rep_regs _ _ _ h.2
theorem repVs_regs {m : Nat → Nat → Option Value} : ∀ (t : Ty) (v : t.den) (vs : List Value), RepVs F m ρ t v vs → ∀ r ∈ t.regs, ∃ ri, ρ r = some ri
 | .unit, _, _, _, r, hr => by cases hr
 | .pair a b, v, vs, ⟨x, l, e, h1, h2⟩, r, hr => by
  rcases List.mem_append.1 hr with hr | hr
  ·exact repV1_regs h1 r hr
  ·exact repVs_regs b _ _ h2 r hr
theorem repV_regs {m : Nat → Nat → Option Value} {t : Ty} {v : t.den} {x : Value} (h : RepV F m ρ t v x) : ∀ r ∈ t.regs, ∃ ri, ρ r = some ri := by
 cases t with
 | any => intro r hr; cases hr
 | tup t => obtain ⟨vs, _, h⟩ := h; exact repVs_regs t _ _ h
 | _ => exact repV1_regs h
theorem regs_known (h : RelAt F0 M W0 F ρ s a w) : ∀ (n : Nat) (t : Ty), (∀ r ∈ t.regs, ∃ ri, ρ r = some ri) → ∀ r ∈ regsD n s t, ∃ ri, ρ r = some ri
 | 0, t, ht, r, hr => ht r hr
 | n + 1, t, ht, r, hr => by
  simp only [regsD] at hr
  rcases List.mem_append.1 hr with hr | hr
  ·exact ht r hr
  ·obtain ⟨q, hq, hr⟩ := List.mem_flatMap.1 hr
   cases hb : s.bx q with
   | none => rw [hb] at hr; cases hr
   | some y =>
    rw [hb] at hr
    obtain ⟨ri, _, hB⟩ := h.box q y hb
    obtain ⟨p, ds, cells, el, _, _, _, _, h5⟩ := hB.ex
    exact regs_known h n y.t (rep_regs _ _ _ h5) r hr
theorem Wf.reg (h : Wf F0 M W0 s) {x : Operand} {tv : TV} (hx : ev s x = some tv) {r : Nat} (hr : r ∈ regsD 3 s tv.t) : isFresh s r = false := by
 obtain ⟨F, ρ, a, w, h⟩ := h
 obtain ⟨ri, hri⟩ := regs_known h 3 _ (repV_regs (ev_law h hx).1) r hr
 cases hf : isFresh s r with
 | false => rfl
 | true => rw [h.fresh r (isFresh_iff.1 hf)] at hri; cases hri
theorem get_put_ne {d i : Nat} {x : TV} (h : d ≠ i) : (s.put (some d) x).get i = s.get i := by rw [St.get_put, if_neg h]
theorem ev_put {d : Option Nat} {x : TV} {y : Operand} (h : ∀ t, d = some t → y ≠ .tmp t) : ev (s.put d x) y = ev s y := by
 cases d with
 | none => rfl
 | some d =>
  cases y with
  | tmp t =>
   have hne : d ≠ t := fun e => h d rfl (e ▸ rfl)
   simp only [ev, get_put_ne hne]
  | _ => rfl
theorem ev_setN {id : Nat} {nt : PN} {xs : ODen nt.nk} {y : Operand} : ev (setN s id nt xs) y = ev s y := by
 cases y <;> try rfl
 simp only [ev, setN_get]
theorem looks_of {o : Oper} {t : Tmp} (h : Operand.tmp t ∈ o.op.operands) : t ∈ o.looksAt ops :=
 List.mem_append_left _ (List.mem_filterMap.2 ⟨.tmp t, by simpa using h, rfl⟩)
theorem gBool_put {o : Oper} {d : Option Nat} {x : TV} (h : ∀ t, d = some t → t ∉ o.looksAt ops) : gBool ops (s.put d x) o = gBool ops s o := by
 cases d with
 | none => rfl
 | some d =>
  unfold gBool
  split
  ·rfl
  ·rename_i j want hg
   split
   ·rfl
   ·rename_i t ht
    have hne : d ≠ t := fun e => h d rfl (by subst e; simp [Oper.looksAt, hg, ht])
    simp only [get_put_ne hne]
theorem gBool_setN {o : Oper} {id : Nat} {nt : PN} {xs : ODen nt.nk} : gBool ops (setN s id nt xs) o = gBool ops s o := by
 unfold gBool
 simp only [setN_get]
theorem cont_setN {id r : Nat} {nt : PN} {xs : ODen nt.nk} (h : r ∉ newIds id nt.nk) : (setN s id nt xs).cont r = s.cont r := by
 simp only [St.cont, ol_setN, if_neg h]
theorem cont_put {d : Option Nat} {x : TV} {r : RK} : (s.put d x).cont r = s.cont r := by cases d <;> rfl
theorem fresh_setN {id r : Nat} {nt : PN} {xs : ODen nt.nk} (h : r ∉ newIds id nt.nk) : isFresh (setN s id nt xs) r = isFresh s r := by
 unfold isFresh; rw [ol_setN, if_neg h]
theorem fresh_put {d : Option Nat} {x : TV} {r : Nat} : isFresh (s.put d x) r = isFresh s r := by cases d <;> rfl
theorem gBool_eqv {o : Oper} (h : s.Eqv s') : gBool ops s o = gBool ops s' o := by
 unfold gBool
 simp only [h.2.1]
theorem put_comm {d c : Option Nat} {x y : TV} (h : ∀ t, d = some t → c ≠ some t) : ((s.put d x).put c y).Eqv ((s.put c y).put d x) := by
 cases d with
 | none => cases c <;> exact St.Eqv.refl _
 | some d =>
  cases c with
  | none => exact St.Eqv.refl _
  | some c =>
   have hne : d ≠ c := fun e => h d rfl (e ▸ rfl)
   refine ⟨rfl, fun i => ?_, fun _ => rfl, rfl⟩
   simp only [St.get_put]
   by_cases h1 : c = i
   ·subst h1; rw [if_pos rfl, if_neg hne, if_pos rfl]; rfl
   ·rw [if_neg h1, if_neg h1]; rfl
theorem putAll_put : ∀ (l : List Cont) {s : St} {d : Option Nat} {x : TV} {k : Nat}, putAll (s.put d x) k l = (putAll s k l).put d x
 | [], _, _, _, _ => rfl
 | c :: l, s, d, x, k => by
  have : (s.put d x).setObj k (.live c) = (s.setObj k (.live c)).put d x := by cases d <;> rfl
  simp only [putAll]
  rw [this, putAll_put l]
theorem setN_swap {d : Option Nat} {x : TV} {id : Nat} {nt : PN} {xs : ODen nt.nk} : setN (s.put d x) id nt xs = (setN s id nt xs).put d x := by
 rw [setN_put, setN_put, putAll_put]
theorem setN_comm {id id' : Nat} {nt nt' : PN} {xs : ODen nt.nk} {ys : ODen nt'.nk} (h : ∀ q, q ∈ newIds id nt.nk → q ∉ newIds id' nt'.nk) : (setN (setN s id nt xs) id' nt' ys).Eqv (setN (setN s id' nt' ys) id nt xs) :=
 ⟨by simp only [setN_n], fun i => by simp only [setN_get], fun r => by
  simp only [ol_setN]
  by_cases h1 : r ∈ newIds id nt.nk
  ·simp [h1, h r h1]
  ·simp [h1], by simp only [setN_pls]⟩
theorem still_out {o : Oper} {T : Ty} {nt : PN} {ut : Option NK} {ur : Nat} {base : St} {kf : Bool} {k : Cnd R (T.den × ODen nt.nk × ODen ut)} {d : Option Nat} {id : Nat} (hst : (⟨T, nt.nk, ut, ur, base, kf, k⟩ : Eff R).still o s = true) (hb : base = s) (v : T.den × ODen nt.nk × ODen ut) (s2 : St) :
  (⟨T, nt.nk, ut, ur, base, kf, k⟩ : Eff R).out d id v = (setN s id nt v.2.1).put d ⟨T, v.1⟩ ∧ ((⟨T, nt.nk, ut, ur, base, kf, k⟩ : Eff R).at s2).out d id v = (setN s2 id nt v.2.1).put d ⟨T, v.1⟩ := by
 simp only [Eff.still, Bool.and_eq_true] at hst
 have hu := hst.1.2
 cases ut with
 | some t => simp at hu
 | none => subst hb; exact ⟨rfl, rfl⟩
theorem still_live {e : Eff R} {o : Oper} {s2 : St} (hs : isStill o s2 = isStill o s) (h : e.still o s = true) : (e.at s2).still o s2 = true := by
 simp only [Eff.still, Bool.and_eq_true, Eff.at] at h ⊢
 exact ⟨⟨by rw [hs]; exact h.1.1, h.1.2⟩, h.2⟩
theorem pureAll_congr {l : List Operand} (h : ∀ x ∈ l, ev s' x = ev s x) : pureAll s' l = pureAll s l := by
 unfold pureAll
 induction l with
 | nil => rfl
 | cons x l ih => simp only [List.all_cons, h x (by simp), ih fun y hy => h y (by simp [hy])]
theorem holdAll_congr {l : List Operand} (h : ∀ x ∈ l, ev s' x = ev s x) : holdAll s' l = holdAll s l := by
 unfold holdAll
 induction l with
 | nil => rfl
 | cons x l ih => simp only [List.all_cons, h x (by simp), ih fun y hy => h y (by simp [hy])]
theorem all_congr {α : Type} {p q : α → Bool} : ∀ {l : List α}, (∀ x ∈ l, p x = q x) → l.all p = l.all q
 | [], _ => rfl
 | x :: l, h => by simp only [List.all_cons, h x (by simp), all_congr (l := l) fun y hy => h y (by simp [hy])]
theorem regsD_congr : ∀ (n : Nat) (t : Ty), (∀ r ∈ regsD n s t, s'.cont r = s.cont r) → regsD n s' t = regsD n s t
 | 0, _, _ => rfl
 | n + 1, t, h => by
  simp only [regsD] at h ⊢
  congr 1
  have : ∀ l : List Nat, (∀ r ∈ l, r ∈ t.regs) → (l.flatMap fun (r : Nat) => match s'.bx r with | some y => regsD n s' y.t | none => []) = l.flatMap fun (r : Nat) => match s.bx r with | some y => regsD n s y.t | none => [] := by
   intro l hl
   induction l with
   | nil => rfl
   | cons r l ih =>
    simp only [List.flatMap_cons, ih fun q hq => hl q (by simp [hq])]
    have hr := hl r (by simp)
    rw [bx_congr (h r (List.mem_append_left _ hr))]
    cases hb : s.bx r with
    | none => rfl
    | some y =>
     simp only
     rw [regsD_congr n y.t fun q hq => h q (List.mem_append_right _ (List.mem_flatMap.2 ⟨r, hr, by rw [hb]; exact hq⟩))]
  exact this _ fun _ h => h
theorem deepOk_congr : ∀ (n m : Nat) (t : Ty), n ≤ m + 1 → (∀ r ∈ regsD m s t, s'.cont r = s.cont r) → deepOk n s' t = deepOk n s t
 | 0, _, _, _, _ => rfl
 | n + 1, m, t, hm, h => by
  simp only [deepOk]
  refine all_congr fun r hr => ?_
  rw [bx_congr (h r (regsD_mem hr))]
  cases hb : s.bx r with
  | none => rfl
  | some y =>
   cases n with
   | zero => rfl
   | succ n =>
    obtain ⟨m, rfl⟩ : ∃ k, m = k + 1 := ⟨m - 1, by omega⟩
    exact deepOk_congr (n + 1) m y.t (by omega) fun q hq => h q (by simp only [regsD]; exact List.mem_append_right _ (List.mem_flatMap.2 ⟨r, hr, by rw [hb]; exact hq⟩))
theorem depth1_congr {l : List Operand} (h : ∀ x ∈ l, Agree1 s s' x) : depth1 s' l = depth1 s l := by
 unfold depth1
 refine all_congr fun x hx => ?_
 rw [(h x hx).1]
 cases he : ev s x with
 | none => rfl
 | some tv => exact deepOk_congr 4 3 tv.t (by omega) ((h x hx).2.1 tv he)
theorem isStill_congr {o : Oper} (h : ∀ x ∈ o.op.operands, Agree1 s s' x) : isStill o s' = isStill o s := by
 unfold isStill
 cases ho : o.op <;> rw [ho] at h <;> try rfl
 case buildSlice t len parts => exact holdAll_congr fun y hy => (h y (by simpa [Op.operands] using hy)).1
 case makeFunc fn first captured => exact pureAll_congr fun y hy => (h y (by simp [Op.operands]; right; simpa using hy)).1
 case call c =>
  obtain ⟨cl, as, ats⟩ := c
  cases cl with
  | builtin b => cases b <;> rfl
  | value f => exact depth1_congr fun x hx => h x (by simp only [Op.operands, Call.operands]; simp at hx ⊢; exact hx)
  | invoke r m => rfl
theorem evReg_congr {x : Operand} (h : ev s' x = ev s x) : evReg s' x = evReg s x := by unfold evReg; rw [h]
theorem evRegs_congr {x : Operand} (h : Agree1 s s' x) : evRegs s' x = evRegs s x := by
 unfold evRegs
 rw [h.1]
 cases he : ev s x with
 | none => rfl
 | some tv => exact regsD_congr 3 tv.t (h.2.1 tv he)
theorem opUses_congr {o : Oper} (h : ∀ x ∈ o.op.operands, Agree1 s s' x) : opUses s' base o = opUses s base o := by
 have : ∀ l : List Operand, (∀ x ∈ l, Agree1 s s' x) → (l.flatMap fun x => (evRegs s' x).filter fun r => Nat.ble base r) = l.flatMap fun x => (evRegs s x).filter fun r => Nat.ble base r := by
  intro l hl
  induction l with
  | nil => rfl
  | cons x l ih => simp only [List.flatMap_cons, evRegs_congr (hl x (by simp)), ih fun y hy => hl y (by simp [hy])]
 exact this _ fun x hx => h x (by simpa using hx)
theorem St.Eqv.agree (h : s.Eqv s') {x : Operand} : Agree1 s s' x := ⟨(h.ev x).symm, fun _ _ r _ => (h.cont r).symm, h.2.2.2.symm⟩
theorem Agree1.symm {x : Operand} (h : Agree1 s s' x) : Agree1 s' s x := ⟨h.1.symm, fun tv htv r hr => by
 have htv' : ev s x = some tv := by rw [← h.1]; exact htv
 rw [regsD_congr 3 tv.t (h.2.1 tv htv')] at hr
 exact (h.2.1 tv htv' r hr).symm, h.2.2.symm⟩
theorem regsD_stay {r : Nat} (hb : ∀ q y, q ≠ r → s.bx q = some y → s'.bx q = some y) : ∀ (n : Nat) (t : Ty), r ∈ regsD n s t → r ∈ regsD n s' t
 | 0, t, h => h
 | n + 1, t, h => by
  simp only [regsD] at h ⊢
  rcases List.mem_append.1 h with h | h
  ·exact List.mem_append_left _ h
  ·obtain ⟨q, hq, h⟩ := List.mem_flatMap.1 h
   cases hbq : s.bx q with
   | none => rw [hbq] at h; cases h
   | some y =>
    rw [hbq] at h
    by_cases e : q = r
    ·subst e; exact List.mem_append_left _ hq
    ·exact List.mem_append_right _ (List.mem_flatMap.2 ⟨q, hq, by rw [hb q y e hbq]; exact regsD_stay hb n y.t h⟩)
theorem mem_opUses {o : Oper} {q : Nat} {x : Operand} (hx : x ∈ o.op.operands) (hq : q ∈ evRegs s x) (hb : base ≤ q) : q ∈ opUses s base o :=
 List.mem_flatMap.2 ⟨x, by simpa using hx, List.mem_filter.2 ⟨hq, by simpa [Nat.ble_eq] using hb⟩⟩
theorem regOf_mem {t : Ty} {r : Nat} (h : regOf t = some r) : r ∈ t.regs := by
 cases t <;> simp only [regOf, Option.some.injEq, reduceCtorEq] at h <;> (subst h; simp [Ty.regs])
theorem evReg_mem {x : Operand} {r : Nat} (h : evReg s x = some r) : r ∈ evRegs s x := by
 unfold evReg at h
 unfold evRegs
 split at h
 ·rename_i tv htv; exact regsD_mem (regOf_mem h)
 ·cases h
theorem appOwn_congr {o : Oper} (h : ∀ x ∈ o.op.operands, ev s' x = ev s x) : appOwn s' base o = appOwn s base o := by
 unfold appOwn
 split
 ·rename_i ags at' ho
  refine all_congr fun x hx => ?_
  rw [h x ?_]
  rw [ho]
  have hx' := List.mem_of_mem_take hx
  simp only [Op.operands, Call.operands]; simp at hx' ⊢; exact hx'
 ·rfl
theorem cont_killO {kr : Option Nat} {r : Nat} (h : kr ≠ some r) : (killO s kr).cont r = s.cont r := by
 cases kr with
 | none => rfl
 | some q => exact St.cont_setObj_ne fun e => h (by rw [e])
theorem ev_killO {kr : Option Nat} {x : Operand} : ev (killO s kr) x = ev s x := by cases kr <;> cases x <;> rfl
theorem gBool_killO {o : Oper} {kr : Option Nat} : gBool ops (killO s kr) o = gBool ops s o := by cases kr <;> rfl
theorem killO_put {d : Option Nat} {x : TV} {kr : Option Nat} : killO (s.put d x) kr = (killO s kr).put d x := by cases d <;> cases kr <;> rfl
theorem ol_killO {kr : Option Nat} {q : Nat} : ol (killO s kr).objs q = if kr = some q then some .dead else ol s.objs q := by
 cases kr with
 | none => simp [killO]
 | some r => simp [killO, ol_setObj]
theorem killO_get {kr : Option Nat} {i : Nat} : (killO s kr).get i = s.get i := by cases kr <;> rfl
theorem killO_n {kr : Option Nat} : (killO s kr).n = s.n := by cases kr <;> rfl
theorem killO_pls {kr : Option Nat} : (killO s kr).pls = s.pls := by cases kr <;> rfl
theorem killO_comm {k k' : Option Nat} : (killO (killO s k) k').Eqv (killO (killO s k') k) :=
 ⟨by simp only [killO_n], fun i => by simp only [killO_get], fun q => by
  simp only [ol_killO]
  by_cases h1 : k = some q <;> by_cases h2 : k' = some q <;> simp [h1, h2], by simp only [killO_pls]⟩
theorem killO_setN {id : Nat} {nt : PN} {xs : ODen nt.nk} {kr : Option Nat} (h : ∀ q ∈ newIds id nt.nk, kr ≠ some q) : (killO (setN s id nt xs) kr).Eqv (setN (killO s kr) id nt xs) :=
 ⟨by simp only [killO_n, setN_n], fun i => by simp only [killO_get, setN_get], fun q => by
  simp only [ol_killO, ol_setN]
  by_cases h1 : q ∈ newIds id nt.nk
  ·simp [h1, h q h1]
  ·simp [h1], by simp only [killO_pls, setN_pls]⟩
theorem fresh_killO {kr : Option Nat} {q : Nat} (h : ∀ r, kr = some r → isFresh s r = false) : isFresh (killO s kr) q = isFresh s q := by
 by_cases e : kr = some q
 ·rw [h q e]
  unfold isFresh
  rw [ol_killO, if_pos e]
 ·unfold isFresh
  rw [ol_killO, if_neg e]
theorem freshE_at {id : Nat} {e : Eff R} {s2 b2 : St} (hu : e.ut = none) (h : freshE s id e = true) (hf : ∀ q, id ≤ q → q < id + 32 → isFresh s2 q = isFresh s q) : freshE s2 id (e.at b2) = true := by
 unfold freshE at *
 simp only [Bool.and_eq_true, List.all_eq_true, Eff.at, Nat.ble_eq] at *
 obtain ⟨⟨⟨h1, h2⟩, h3⟩, h4⟩ := h
 refine ⟨⟨⟨by rw [hf id (Nat.le_refl _) (by omega)]; exact h1, h2⟩, fun q hq => ?_⟩, fun q hq => ?_⟩
 ·obtain ⟨g1, g2⟩ := mem_newIds.1 hq
  rw [hf q g1 (by omega)]; exact h3 q hq
 ·rw [hu] at hq; cases hq
theorem StepS.still {ap : Bool} {U : Nat → List Nat} {i : Nat} {o : Oper} {s1 : St} (h : StepS tb Γ R ops base true ap U i o s s1) :
  ∃ (T : Ty) (v : T.den) (nt : PN) (xs : ODen nt.nk) (kr : Option Nat), nkCnt nt.nk ≤ 16 ∧ (∀ q ∈ newIds (base + 32 * i) nt.nk, isFresh s q = true) ∧ s1.Eqv ((setN (killO s kr) (base + 32 * i) nt xs).put o.dst ⟨T, v⟩) ∧
   (∀ r, kr = some r → ap = true ∧ base ≤ r ∧ r ∈ U i ∧ ∃ x ∈ o.op.operands, evReg s x = some r) ∧
   (gBool ops s o = some true → ap = true → ∀ q ∈ opUses s base o, q ∈ U i) ∧
   ∀ s2, gBool ops s2 o = gBool ops s o → (gBool ops s o = some true → ∀ x ∈ o.op.operands, Agree1 s s2 x) → (∀ q, base + 32 * i ≤ q → q < base + 32 * i + 32 → isFresh s2 q = isFresh s q) →
    StepS tb Γ R ops base true ap U i o s2 ((setN (killO s2 kr) (base + 32 * i) nt xs).put o.dst ⟨T, v⟩) := by
 cases h with
 | skip sr hr hg' hs => exact ⟨.tup .unit, (), .no, (), none, Nat.zero_le _, fun q hq => (by cases hq), by rw [hs]; exact (hr.put _ _).symm, fun r h => (by cases h), fun h => (by rw [hg'] at h; cases h), fun s2 hg _ _ => .skip s2 (St.Eqv.refl s2) (by rw [hg]; exact hg') rfl⟩
 | go sr hr e v hg' he hst hu hf' hv hs =>
  have huse : opUses sr base o = opUses s base o := opUses_congr fun x _ => hr.agree
  have hus : ap = true → ∀ q ∈ opUses s base o, q ∈ U i := fun ha q hq => hu rfl ha q (by rw [huse]; exact hq)
  have agr : ∀ s2, (∀ x ∈ o.op.operands, Agree1 s s2 x) → ∀ x ∈ o.op.operands, Agree1 sr s2 x := fun s2 ha x hx => ⟨by rw [(ha x hx).1, hr.ev], fun tv htv r hr' => by
   have htv' : ev s x = some tv := by rw [hr.ev]; exact htv
   rw [regsD_congr 3 tv.t fun r _ => (hr.cont r).symm] at hr'
   rw [(ha x hx).2.1 tv htv' r hr', hr.cont], by rw [(ha x hx).2.2, hr.2.2.2]⟩
  have hcnt : nkCnt e.nt ≤ 16 := by
   unfold freshE at hf'
   simp only [Bool.and_eq_true, Nat.ble_eq] at hf'
   exact hf'.1.1.2
  have hnew : ∀ q ∈ newIds (base + 32 * i) e.nt, isFresh s q = true := fun q hq => by
   unfold freshE at hf'
   simp only [Bool.and_eq_true, List.all_eq_true] at hf'
   rw [hr.fresh]; exact hf'.1.2 q hq
  obtain ⟨hst, hpn⟩ := hst rfl
  obtain ⟨T, nt0, ut, ur, bs, kf, k⟩ := e
  simp only at hpn hcnt hnew
  obtain ⟨nt, rfl⟩ := plain_pn hpn
  rcases hst with hst | ⟨hap, hut0, hown⟩
  ·obtain ⟨h1, _⟩ := opD_congr (s' := sr) (fun x _ => ⟨rfl, fun _ _ _ _ => rfl, rfl⟩) he hst
   refine ⟨T, v.1, nt, v.2.1, none, hcnt, hnew, ?_, fun r h => (by cases h), fun _ => hus, fun s2 hg ha hf => ?_⟩
   ·rw [hs, (still_out hst h1 v sr).1]
    exact ((hr.setN _ _ _).put _ _).symm
   ·have ha' := agr s2 (ha hg')
    obtain ⟨_, h2⟩ := opD_congr ha' he hst
    have hut : ut = none := by
     have := hst
     simp only [Eff.still, Bool.and_eq_true, Option.isNone_iff_eq_none] at this
     exact this.1.2
    exact .go s2 (St.Eqv.refl s2) (Eff.at ⟨T, nt.nk, ut, ur, bs, kf, k⟩ s2) v (by rw [hg]; exact hg') h2 (fun _ => ⟨.inl (still_live (isStill_congr ha') hst), pn_plain nt⟩) (fun _ hap q hq => hu rfl hap q (by rw [← opUses_congr fun x hx => ha' x hx]; exact hq)) (freshE_at hut hf' fun q g1 g2 => by rw [hf q g1 g2, hr.fresh]) hv (still_out hst h1 v s2).2.symm
  ·have key := fun s2 (ha' : ∀ x ∈ o.op.operands, Agree1 sr s2 x) => opD_app he hut0 hown ha'
   obtain ⟨h1, hut, _, hk⟩ := key sr fun x _ => ⟨rfl, fun _ _ _ _ => rfl, rfl⟩
   generalize opKr sr o = kr at key h1 hk
   have hfe := fun s2 (hf : ∀ q, base + 32 * i ≤ q → q < base + 32 * i + 32 → isFresh s2 q = isFresh s q) => freshE_at (s2 := s2) (b2 := killO s2 kr) hut hf' fun q g1 g2 => by rw [hf q g1 g2, hr.fresh]
   simp only at h1 hut
   subst hut
   subst h1
   have hk' : ∀ r, kr = some r → ap = true ∧ base ≤ r ∧ r ∈ U i ∧ ∃ x ∈ o.op.operands, evReg s x = some r := fun r h => by
    obtain ⟨h2, x, hx, hxr⟩ := hk r h
    have hxs : evReg s x = some r := by rw [← hxr]; exact evReg_congr (hr.ev x)
    exact ⟨hap, h2, hus hap r (mem_opUses hx (evReg_mem hxs) h2), x, hx, hxs⟩
   refine ⟨T, v.1, nt, v.2.1, kr, hcnt, hnew, ?_, hk', fun _ => hus, fun s2 hg ha hf => ?_⟩
   ·rw [hs]
    exact (((hr.killO kr).setN _ _ _).put _ _).symm
   ·have ha' := agr s2 (ha hg')
    obtain ⟨_, _, h4, _⟩ := key s2 ha'
    have hev : ∀ x ∈ o.op.operands, ev s2 x = ev sr x := fun x hx => (ha' x hx).1
    exact .go s2 (St.Eqv.refl s2) ⟨T, nt.nk, none, ur, killO s2 kr, kf, k⟩ v (by rw [hg]; exact hg') h4 (fun _ => ⟨.inr ⟨hap, rfl, by rw [appOwn_congr hev]; exact hown⟩, pn_plain nt⟩) (fun _ hap q hq => hu rfl hap q (by rw [← opUses_congr ha']; exact hq)) (hfe s2 hf) hv rfl
theorem swap {ap : Bool} {U : Nat → List Nat} (hU : ApartU U) {i j : Nat} {oi oj : Oper} {si sij : St} (hw : Wf F0 M W0 s) (hij : i ≠ j) (hap : oi.apart ops oj = true) (h1 : StepS tb Γ R ops base true ap U i oi s si) (h2 : StepS tb Γ R ops base true ap U j oj si sij) :
  ∃ sj sx, StepS tb Γ R ops base true ap U j oj s sj ∧ StepS tb Γ R ops base true ap U i oi sj sx ∧ sij.Eqv sx := by
 obtain ⟨a1, a2, a3⟩ := Oper.apart_spec hap
 obtain ⟨T, v, nt, xs, kr, hc, hn, e1, hkr, hus, m1⟩ := h1.still
 obtain ⟨T', v', nt', xs', kr', hc', hn', e2, hkr', hus', m2⟩ := h2.still
 have dis : ∀ {i j : Nat} {nt : PN} {q : Nat}, i ≠ j → nkCnt nt.nk ≤ 16 → q ∈ newIds (base + 32 * i) nt.nk → ¬ (base + 32 * j ≤ q ∧ q < base + 32 * j + 32) := fun {i j nt q} hij hc hq => by
  have := mem_newIds.1 hq
  omega
 have win : ∀ {i : Nat} {nt : PN} {q : Nat}, nkCnt nt.nk ≤ 16 → q ∈ newIds (base + 32 * i) nt.nk → base + 32 * i ≤ q ∧ q < base + 32 * i + 32 := fun {i nt q} hc hq => by
  have := mem_newIds.1 hq
  omega
 have op1 : ∀ {o : Oper} {d : Option Nat}, (∀ t, d = some t → t ∉ o.looksAt ops) → ∀ x ∈ o.op.operands, ∀ t, d = some t → x ≠ .tmp t := fun h x hx t ht e => h t ht (looks_of (by subst e; exact hx))
 have evj : ∀ x ∈ oj.op.operands, ev si x = ev s x := fun x hx => by rw [e1.ev, ev_put (op1 a1 x hx), ev_setN, ev_killO]
 have gj : gBool ops si oj = gBool ops s oj := by rw [gBool_eqv e1, gBool_put a1, gBool_setN, gBool_killO]
 have reg : ∀ {x : Operand} {r : Nat}, r ∈ evRegs s x → isFresh s r = false := fun {x r} h => by
  unfold evRegs at h
  split at h
  ·rename_i tv htv; exact hw.reg htv h
  ·cases h
 have fk : ∀ r, kr = some r → isFresh s r = false := fun r h => by
  obtain ⟨_, _, _, x, _, hx⟩ := hkr r h; exact reg (evReg_mem hx)
 have fk' : ∀ r, kr' = some r → isFresh s r = false := fun r h => by
  obtain ⟨_, _, _, x, hx1, hx⟩ := hkr' r h
  exact reg (evReg_mem (by rw [← hx]; exact (evReg_congr (evj x hx1)).symm))
 have hfj : ∀ q, base + 32 * j ≤ q → q < base + 32 * j + 32 → isFresh si q = isFresh s q := fun q g1 g2 => by
  rw [e1.fresh, fresh_put, fresh_setN (fun hq => dis hij hc hq ⟨g1, g2⟩), fresh_killO fk]
 have hnj : ∀ q ∈ newIds (base + 32 * j) nt'.nk, isFresh s q = true := fun q hq => by
  obtain ⟨g1, g2⟩ := win hc' hq
  rw [← hfj q g1 g2]; exact hn' q hq
 have ag : ∀ {o : Oper} {d : Option Nat} {id : Nat} {nt : PN} {xs : ODen nt.nk} {y : TV} {k : Option Nat}, (∀ t, d = some t → t ∉ o.looksAt ops) → (∀ q ∈ newIds id nt.nk, isFresh s q = true) → (∀ x ∈ o.op.operands, ∀ r, r ∈ evRegs s x → k ≠ some r) → ∀ x ∈ o.op.operands, Agree1 s ((setN (killO s k) id nt xs).put d y) x := fun {o d id nt xs y k} hd hn hk x hx =>
  ⟨by rw [ev_put (op1 hd x hx), ev_setN, ev_killO], fun tv htv r hr => (by
   rw [cont_put]
   have hkn := hk x hx r (by unfold evRegs; rw [htv]; exact hr)
   refine (cont_setN fun e => ?_).trans (cont_killO hkn)
   have := hn r e
   rw [hw.reg htv hr] at this; cases this), by
   have : ∀ {s : St} {d : Option Nat} {y : TV}, (s.put d y).pls = s.pls := fun {s d y} => by cases d <;> rfl
   rw [this, setN_pls, killO_pls]⟩
 have sy : ∀ {s s' : St} {x : Operand}, Agree1 s s' x → Agree1 s' s x := fun h => h.symm
 have eq1 : ∀ {s s' s2 : St} {x : Operand}, Agree1 s s' x → s'.Eqv s2 → Agree1 s s2 x := fun h e => ⟨by rw [← e.ev]; exact h.1, fun tv htv r hr => by rw [← e.cont]; exact h.2.1 tv htv r hr, by rw [← e.2.2.2]; exact h.2.2⟩
 have kj : gBool ops si oj = some true → ∀ x ∈ oj.op.operands, ∀ r, r ∈ evRegs s x → kr ≠ some r := fun hg x hx r hr hk => by
  obtain ⟨hap, hb, hui, _⟩ := hkr r hk
  refine hU i j r hij hui (hus' hg hap r (mem_opUses hx ?_ hb))
  unfold evRegs at hr ⊢
  rw [evj x hx]
  split at hr
  ·exact regsD_stay (fun q y hq hy => by
    refine (bx_congr ?_).trans hy
    rw [e1.cont, cont_put]
    refine (cont_setN fun e => ?_).trans (cont_killO fun e => ?_)
    ·have h1 := hn q e
     rw [isFresh_iff] at h1
     rw [St.bx_cont, St.cont_iff, h1] at hy; cases hy
    ·rw [hk] at e; cases e; exact hq rfl) 3 _ hr
  ·cases hr
 have ki : gBool ops s oi = some true → ∀ x ∈ oi.op.operands, ∀ r, r ∈ evRegs s x → kr' ≠ some r := fun hg x hx r hr hk => by
  obtain ⟨hap, hb, huj, _⟩ := hkr' r hk
  exact hU i j r hij (hus hg hap r (mem_opUses hx hr hb)) huj
 have s2 := m2 s gj.symm (fun hg x hx => sy (eq1 (ag a1 hn (kj hg) x hx) e1.symm)) (fun q g1 g2 => (hfj q g1 g2).symm)
 refine ⟨_, _, s2, m1 ((setN (killO s kr') (base + 32 * j) nt' xs').put oj.dst ⟨T', v'⟩) (by rw [gBool_put a3, gBool_setN, gBool_killO]) (fun hg => ag a3 hnj (ki hg)) (fun q g1 g2 => by rw [fresh_put, fresh_setN (fun hq => dis (Ne.symm hij) hc' hq ⟨g1, g2⟩), fresh_killO fk']), ?_⟩
 refine e2.trans ?_
 refine (((e1.killO kr').setN _ _ _).put _ _).trans ?_
 have c1 : ∀ q ∈ newIds (base + 32 * i) nt.nk, kr' ≠ some q := fun q hq hk => by
  have := hn q hq
  rw [fk' q hk] at this; cases this
 have c2 : ∀ q ∈ newIds (base + 32 * j) nt'.nk, kr ≠ some q := fun q hq hk => by
  have := hnj q hq
  rw [fk q hk] at this; cases this
 have c3 : ∀ q, q ∈ newIds (base + 32 * i) nt.nk → q ∉ newIds (base + 32 * j) nt'.nk := fun q h1 h2 => dis hij hc h1 (win hc' h2)
 rw [killO_put, killO_put, setN_swap, setN_swap]
 refine St.Eqv.trans ?_ (put_comm a2)
 refine St.Eqv.put (St.Eqv.put ?_ _ _) _ _
 refine ((killO_setN c1).setN _ _ _).trans ?_
 refine (setN_comm c3).trans ?_
 refine St.Eqv.setN ?_ _ _ _
 refine (killO_comm.setN _ _ _).trans ?_
 exact (killO_setN c2).symm
def Tr (tb : Tab) (Γ : Nat → List Ctr) (R : Type) (ops : Array Oper) (base n : Nat) (ap : Bool) (U : Nat → List Nat) (L : Array Bool → St → Prop) : Nat → Array Bool → St → Prop
 | 0, listed, s => L listed s
 | f + 1, listed, s => Region.ready .any ops listed ≠ [] ∧ ∀ i ∈ Region.ready .any ops listed, i < n ∧ ∃ o s', ops[i]? = some o ∧ StepS tb Γ R ops base true ap U i o s s' ∧ Tr tb Γ R ops base n ap U L f (listed.setIfInBounds i true) s'
theorem Tr_eqv {ap : Bool} {U : Nat → List Nat} {L : Array Bool → St → Prop} (hL : ∀ listed s s', L listed s → s.Eqv s' → L listed s') : ∀ (f : Nat) (listed : Array Bool) (s s' : St), Tr tb Γ R ops base n ap U L f listed s → s.Eqv s' → Tr tb Γ R ops base n ap U L f listed s'
 | 0, listed, s, s', h, e => hL _ _ _ h e
 | f + 1, listed, s, s', h, e => by
  refine ⟨h.1, fun i hi => ?_⟩
  obtain ⟨h1, o, s1, h2, h3, h4⟩ := h.2 i hi
  obtain ⟨T, v, nt, xs, kr, _, hn, e1, _, _, m1⟩ := h3.still
  refine ⟨h1, o, _, h2, m1 s' (gBool_eqv e.symm) (fun _ x hx => ⟨(e.ev x).symm, fun tv htv r hr => (e.cont r).symm, e.2.2.2.symm⟩) (fun q _ _ => (e.fresh q).symm), Tr_eqv hL f _ s1 _ h4 (e1.trans (((e.killO kr).setN _ _ _).put _ _))⟩
theorem Tr_first {ap : Bool} {U : Nat → List Nat} (hU : ApartU U) (hT : TabOk P tb) (hΓ : CtrsOk P Γ) {i : Nat} {oi : Oper} {L : Array Bool → St → Prop} (hLe : ∀ listed s s', L listed s → s.Eqv s' → L listed s') (hi : ops[i]? = some oi) (hin : i < n)
  (hlt : ∀ listed, HeadInv .any ops n listed → listed.getD i true = false → ∀ j ∈ Region.ready .any ops listed, j < n) (hdone : ∀ listed s, L listed s → ∀ j ∈ Region.ready .any ops listed, n ≤ j) :
  ∀ (f : Nat) (listed : Array Bool) (s si : St), Wf F0 M W0 s → HeadInv .any ops n listed →
   (∀ j oj, ops[j]? = some oj → j ≠ i → listed.getD j true = false → (∀ e ∈ oj.after, Region.binds .any e = true → e.on ≠ i) → oi.apart ops oj = true) →
   i ∈ Region.ready .any ops listed → StepS tb Γ R ops base true ap U i oi s si → Tr tb Γ R ops base n ap U L f (listed.setIfInBounds i true) si → Tr tb Γ R ops base n ap U L (f + 1) listed s := by
 intro f
 induction f with
 | zero =>
  intro listed s si hw inv _ hr hy H
  refine ⟨fun h => (by rw [h] at hr; cases hr), fun j hj => ?_⟩
  have hjn := hlt listed inv (mem_ready.1 hr).1 j hj
  refine ⟨hjn, ?_⟩
  by_cases hji : j = i
  ·subst hji; exact ⟨oi, si, hi, hy, H⟩
  ·have := hdone _ _ H j (ready_mono hj hji)
   omega
 | succ f ih =>
  intro listed s si hw inv hfree hr hy H
  refine ⟨fun h => (by rw [h] at hr; cases hr), fun j hj => ?_⟩
  have hjn := hlt listed inv (mem_ready.1 hr).1 j hj
  refine ⟨hjn, ?_⟩
  by_cases hji : j = i
  ·subst hji; exact ⟨oi, si, hi, hy, H⟩
  ·obtain ⟨_, oj, sij, hoj, hsj, hT'⟩ := H.2 j (ready_mono hj hji)
   obtain ⟨hjun, oj', hoj', hall⟩ := mem_ready.1 hj
   rw [hoj] at hoj'; cases hoj'
   have hnot : ∀ e ∈ oj.after, Region.binds .any e = true → e.on ≠ i := fun e he hb heq => by
    have h1 := hall e he hb
    rw [heq, getD_both (mem_ready.1 hr).1] at h1
    cases h1
   obtain ⟨sj, sx, h1, h2, hx⟩ := swap hU hw (Ne.symm hji) (hfree j oj hoj hji hjun hnot) hy hsj
   refine ⟨oj, sj, hoj, h1, ?_⟩
   have hfree' : ∀ k ok, ops[k]? = some ok → k ≠ i → (listed.setIfInBounds j true).getD k true = false →
     (∀ e ∈ ok.after, Region.binds .any e = true → e.on ≠ i) → oi.apart ops ok = true := fun k ok hk hki hun hno => by
    refine hfree k ok hk hki ?_ hno
    by_cases hjk : j = k
    ·subst hjk; exact hjun
    ·rw [getD_set_ne true hjk] at hun; exact hun
   refine ih (listed.setIfInBounds j true) sj sx (hw.step hT hΓ h1) (inv.set hj hjn) hfree' (ready_mono hr (Ne.symm hji)) h2 ?_
   rw [Array.setIfInBounds_comm _ _ hji]
   exact Tr_eqv hLe f _ _ _ hT' hx
theorem Tr_lex {ap : Bool} {U : Nat → List Nat} (hU : ApartU U) (hT : TabOk P tb) (hΓ : CtrsOk P Γ) {g : Nat} {s' : St} (hlt : ∀ i listed, i < n → HeadInv .any ops n listed → listed.getD i true = false → ∀ j ∈ Region.ready .any ops listed, j < n) :
  ∀ (l : List Oper) (k : Nat) (listed : Array Bool) (s : St), (∀ j, j < l.length → l[j]? = ops[k + j]?) → k + l.length = n → Wf F0 M W0 s → HeadInv .any ops n listed →
  Region.lexHead .any ops g l.length k listed = true → Run tb Γ R ops base n ap U l k s s' →
  Tr tb Γ R ops base n ap U (fun listed' s2 => Region.seqB .any ops g n listed' = true ∧ s2.Eqv s') l.length listed s
 | [], k, listed, s, _, hk, _, _, hB, h => by
  have : k = n := by simpa using hk
  subst this
  cases h
  exact ⟨by simpa [Region.lexHead] using hB, St.Eqv.refl _⟩
 | o :: l, k, listed, s, hl, hk, hw, inv, hB, h => by
  have h0 : ops[k]? = some o := by simpa using (hl 0 (by simp)).symm
  simp only [List.length_cons, Region.lexHead, Bool.and_eq_true] at hB
  obtain ⟨⟨hr, hf⟩, hB'⟩ := hB
  have hkn : k < n := by simp only [List.length_cons] at hk; omega
  have hr' : k ∈ Region.ready .any ops listed := by simpa using hr
  cases h with
  | cons h1 h2 =>
   rw [show decide (k < n) = true by simpa using hkn] at h1
   exact Tr_first hU hT hΓ (fun listed s s' h e => ⟨h.1, e.symm.trans h.2⟩) h0 hkn (hlt k · hkn) (fun listed' s2 hL => seqB_ready hL.1) l.length listed s _ hw inv (Region.free_spec h0 hf) hr' h1
    (Tr_lex hU hT hΓ hlt l (k + 1) _ _ (fun j hj => by have := hl (j + 1) (by simp; omega); simpa [Nat.add_assoc, Nat.add_comm 1 j] using this) (by simp only [List.length_cons] at hk; omega) (hw.step hT hΓ h1) (inv.set hr' hkn) hB' h2)
theorem Tr_wp {ap : Bool} {U : Nat → List Nat} (hT : TabOk P tb) (hΓ : CtrsOk P Γ) {g : Nat} {L : Array Bool → St → Prop} {T : Act → Prop} {Q : Exit → Act → World → Prop} (hk : KeepsL T ops.toList)
  (hL : ∀ listed s, L listed s → ∀ F ρ a w, RelAt F0 M W0 F ρ s a w → T a → wpAny P .any ops Q g listed a w) :
  ∀ (f : Nat) (listed : Array Bool) (s : St), Tr tb Γ R ops base n ap U L f listed s → ∀ F ρ a w, RelAt F0 M W0 F ρ s a w → T a → wpAny P .any ops Q (f + g) listed a w
 | 0, listed, s, h, F, ρ, a, w, hr, ht => by rw [Nat.zero_add]; exact hL _ _ h _ _ _ _ hr ht
 | f + 1, listed, s, h, F, ρ, a, w, hr, hta => by
  rw [show f + 1 + g = (f + g) + 1 by omega]
  refine ⟨fun h0 => absurd h0 h.1, fun i hi => ?_⟩
  obtain ⟨_, o, s', ho, hs, ht⟩ := h.2 i hi
  have := step_wp (Q := Q) hT hΓ hr hs fun F' ρ' val w' h' => Tr_wp hT hΓ hk hL f _ s' ht F' ρ' _ w' h' (hk o (by simpa using Array.mem_of_getElem? ho) a val hta)
  unfold wpOp
  simp only [ho]
  split
  ·rename_i hc; rw [if_pos hc] at this; exact .inl this
  ·rename_i hc; rw [if_neg hc] at this; exact this
theorem lexFrom_head : ∀ (f k : Nat) (listed : Array Bool), Region.lexFrom .any ops f k listed = Region.lexHead .any ops 0 f k listed
 | 0, k, listed => rfl
 | f + 1, k, listed => by simp only [Region.lexFrom, Region.lexHead, lexFrom_head f]
theorem headLen_spec {n : Nat} (h : headLen ops = some n) : Region.lexHead .any ops (ops.size - n) n 0 (Array.replicate ops.size false) = true ∧ (n = ops.size ∨ (n < ops.size ∧ Region.sinkB .any ops n = true ∧ Region.chainB .any ops n = true)) := by
 unfold headLen at h
 split at h
 ·rename_i hc
  cases h
  simp only [Region.lexB, Bool.and_eq_true] at hc
  refine ⟨?_, .inl rfl⟩
  rw [Nat.sub_self, ← lexFrom_head]
  exact hc.1.2
 ·split at h
  ·rename_i m hm
   cases h
   have hm := List.mem_of_mem_head? hm
   have h2 := (List.mem_filter.1 hm).2
   simp only [Region.lexTailB, Bool.and_eq_true, decide_eq_true_eq] at h2
   obtain ⟨_, ⟨⟨⟨h3, h4⟩, h5⟩, h6⟩, h7⟩ := h2
   exact ⟨h7, .inr ⟨h4, h5, h6⟩⟩
  ·split at h
   ·rename_i hc
    cases h
    simp only [Region.lexB, Bool.and_eq_true] at hc
    refine ⟨?_, .inl rfl⟩
    rw [Nat.sub_self, ← lexFrom_head]
    exact hc.2
   ·cases h
theorem Run.split {ap : Bool} {U : Nat → List Nat} : ∀ {l : List Oper} {k m : Nat} {s s' : St}, Run tb Γ R ops base n ap U l k s s' → ∃ s1, Run tb Γ R ops base n ap U (l.take m) k s s1 ∧ Run tb Γ R ops base n ap U (l.drop m) (k + (l.take m).length) s1 s' := by
 intro l
 induction l with
 | nil => intro k m s s' h; exact ⟨s, by simpa using .nil k s, by simpa using h⟩
 | cons o l ih =>
  intro k m s s' h
  cases m with
  | zero => exact ⟨s, .nil k s, by simpa using h⟩
  | succ m =>
   cases h with
   | cons h1 h2 =>
    obtain ⟨s2, h3, h4⟩ := ih (m := m) h2
    refine ⟨s2, .cons h1 h3, ?_⟩
    simpa [Nat.add_assoc, Nat.add_comm 1] using h4
theorem any_wp {ap : Bool} {U : Nat → List Nat} (hU : ApartU U) (hT : TabOk P tb) (hΓ : CtrsOk P Γ) (h : RelAt F0 M W0 F ρ s a w) (hn : headLen ops = some n) {s' : St} (hr : Run tb Γ R ops base n ap U ops.toList 0 s s') {T : Act → Prop} (hk : KeepsL T ops.toList) (ht : T a) {Q : Exit → Act → World → Prop}
  (hQ : ∀ F' ρ' a' w', RelAt F0 M W0 F' ρ' s' a' w' → T a' → Q .normal a' w') : wpAny P .any ops Q ops.size (Array.replicate ops.size false) a w := by
 obtain ⟨hlex, hcase⟩ := headLen_spec hn
 have hns : n ≤ ops.size := by omega
 have htl : (ops.toList.take n).length = n := by simp; omega
 have inv0 : HeadInv .any ops n (Array.replicate ops.size false) :=
  ⟨by simp, fun j oj _ hl => (by rw [getD_replicate_false] at hl; cases hl), fun t _ ht => getD_in (by simpa using ht) (getD_replicate_false _ _)⟩
 have hlt : ∀ i listed, i < n → HeadInv .any ops n listed → listed.getD i true = false → ∀ j ∈ Region.ready .any ops listed, j < n := fun i listed hi inv hun j hj => by
  rcases hcase with rfl | ⟨h1, h2, h3⟩
  ·obtain ⟨_, o, ho, _⟩ := mem_ready.1 hj
   exact (Array.getElem?_eq_some_iff.1 ho).1
  ·rcases Nat.lt_or_ge j n with h4 | h4
   ·exact h4
   ·exact absurd hj (tail_waits h2 h3 h1 inv _ i rfl hi hun j h4)
 obtain ⟨s1, r1, r2⟩ := hr.split (m := n)
 rw [htl, Nat.zero_add] at r2
 have H := Tr_lex hU hT hΓ (g := ops.size - n) hlt (ops.toList.take n) 0 (Array.replicate ops.size false) s (fun j hj => by
  have hj' : j < n := by rw [htl] at hj; exact hj
  simp [hj']) (by simpa using htl) ⟨F, ρ, a, w, h⟩ inv0 (by rw [htl]; exact hlex) r1
 have := Tr_wp (Q := Q) (T := T) hT hΓ (g := ops.size - n) hk (fun listed s2 hL F ρ a w hr ht => by
  have hdl : (ops.toList.drop n).length = ops.size - n := by simp
  have := wpAny_of_seq (md := .any) (Q' := Q) (ops.toList.drop n) n listed a w (fun j => by simp [List.getElem?_drop]) (by rw [hdl]; exact hL.1) (run_wp hT hΓ hQ r2 (fun o ho => hk o (List.mem_of_mem_drop ho)) (hr.eqv hL.2) ht)
  rwa [hdl] at this) _ _ _ H F ρ a w h ht
 rw [htl, show n + (ops.size - n) = ops.size by omega] at this
 exact this
def ZB (p r : Nat) (y : TV) (s : St) : Prop := s.get p = some ⟨.pad r 0, ()⟩ ∧ s.bx r = some y
theorem ZB.eqv {p r : Nat} {y : TV} (h : ZB p r y s) (e : s.Eqv s') : ZB p r y s' := ⟨by rw [← e.2.1]; exact h.1, by rw [St.bx_cont, ← e.cont, ← St.bx_cont]; exact h.2⟩
theorem ZB.put {p r : Nat} {y : TV} (h : ZB p r y s) {d : Option Nat} {x : TV} (hd : d ≠ some p) : ZB p r y (s.put d x) := by
 refine ⟨?_, by rw [St.bx_cont, cont_put, ← St.bx_cont]; exact h.2⟩
 cases d with
 | none => exact h.1
 | some d => rw [get_put_ne (fun e => hd (by rw [e]))]; exact h.1
theorem ZB.live {p r : Nat} {y : TV} (h : ZB p r y s) : isFresh s r = false := by
 have h2 := St.bx_cont.1 h.2
 rw [St.cont_iff] at h2
 unfold isFresh; rw [h2]
theorem ZB.setN {p r : Nat} {y : TV} (h : ZB p r y s) {id : Nat} {nt : PN} {xs : ODen nt.nk} (hn : ∀ q ∈ newIds id nt.nk, isFresh s q = true) : ZB p r y (setN s id nt xs) :=
 ⟨by rw [setN_get]; exact h.1, by
  rw [St.bx_cont, cont_setN fun e => (by have := hn r e; rw [h.live] at this; cases this), ← St.bx_cont]; exact h.2⟩
theorem ZB.setObj {p r : Nat} {y : TV} (h : ZB p r y s) {q : Nat} {o : ObS} (hq : q ≠ r) : ZB p r y (s.setObj q o) :=
 ⟨h.1, by rw [St.bx_cont, St.cont_setObj_ne hq, ← St.bx_cont]; exact h.2⟩
theorem ZB.setPl {p r q : Nat} {y : TV} (h : ZB p r y s) {pl : PL} : ZB p r y (s.setPl q pl) := ⟨h.1, h.2⟩
theorem ZB.ne {p r q : Nat} {y : TV} (h : ZB p r y s) {c : Cont} (hc : s.cont q = some c) (hb : ∀ x, c ≠ .box x) : q ≠ r := fun e => by
 subst e
 rw [St.bx_cont.1 h.2] at hc; cases hc; exact hb _ rfl
theorem ZB.frz {p r q : Nat} {y : TV} (h : ZB p r y s) (hy : y.t.regs = []) {c : Tn} (hq : q ≠ r) : ZB p r y (s.frz q c) := by
 refine ⟨?_, ?_⟩
 ·rw [get_frz, h.1]
  simp only [Option.map_some, frzX, Ty.regs, List.contains_cons, List.contains_nil, Bool.or_false]
  have : (q == r) = false := by simpa using hq
  rw [this]; rfl
 ·rw [St.bx_cont, cont_frz, if_neg (RK.reg_ne hq), St.bx_cont.1 h.2]
  simp only [Option.map_some, frzC1, frzX, hy, List.contains_nil, cond_false]
theorem ZB.ownc {p r : Nat} {y : TV} (h : ZB p r y s) {x : TV} {ob : OBc} (ho : ownTVc s x = some (ob, s')) : ZB p r y s' := by
 unfold ownTVc at ho
 split at ho
 ·split at ho
  ·cases ho; exact h.setPl
  ·cases ho
 ·split at ho
  ·rename_i ob' sk hk
   cases ho
   unfold ownTV at hk
   split at hk
   ·split at hk
    ·rename_i hob; cases hk; exact h.setObj (h.ne (St.obj_cont.1 hob) fun x e => by cases e)
    ·cases hk
   ·split at hk
    ·rename_i hob; cases hk; exact h.setObj (h.ne (St.obj_cont.1 hob) fun x e => by cases e)
    ·cases hk
   ·cases hk
  ·cases ho
theorem ZB.hold {p r : Nat} {y : TV} (h : ZB p r y s) (hy : y.t.regs = []) {x z : TV} (hx : (x.t.hold || isOw s x.t) = true) (ht : toHold s x = some (z, s')) : ZB p r y s' := by
 by_cases hp : x.t.hold = true
 ·rw [toHold_hold hp] at ht; cases ht; exact h
 ·obtain ⟨xt, xv⟩ := x
  have hx : isOw s xt = true := by simpa [hp] using hx
  obtain ⟨q, hq⟩ : ∃ q, xt = .ow q := by cases xt <;> first | exact ⟨_, rfl⟩ | (simp [isOw] at hx)
  subst hq
  simp only [isOw] at hx
  cases ho : s.obj q with
  | none => rw [ho] at hx; cases hx
  | some ob =>
   have hc := St.obj_cont.1 ho
   have hne := h.ne hc fun x e => (by cases e)
   unfold toHold toHoldN at ht
   simp only [Ty.hold, Ty.pure, Bool.false_eq_true, if_false] at ht
   have hf : findF s 8 (.ow q) = some q := by
    unfold findF
    simp only [Ty.regs, hc]
   rw [hf] at ht
   simp only [hc] at ht
   have fin : ∀ {s1 : St} {x1 : TV} {n : Nat}, ZB p r y s1 → (x1.t.hold = true ∨ x1.t.regs = []) → toHoldN n s1 x1 = some (z, s') → ZB p r y s' := fun {s1 x1 n} h1 h2 ht => by
    cases n with
    | zero => cases ht
    | succ n =>
     unfold toHoldN at ht
     split at ht
     ·cases ht; exact h1
     ·rename_i hh
      rcases h2 with h2 | h2
      ·exact absurd h2 hh
      ·have : findF s1 8 x1.t = none := by unfold findF; rw [h2]
       rw [this] at ht; cases ht
   have hfx : ∀ c : Tn, frzX q c ⟨.ow q, xv⟩ = frzC q c ⟨.ow q, xv⟩ := fun c => by simp [frzX, Ty.regs, frzD]
   split at ht
   ·split at ht
    ·split at ht
     ·refine fin ?_ ?_ ht
      ·exact (h.frz hy hne).setPl
      ·rw [hfx]; simp [frzC, Ty.hold]
     ·cases ht
    ·cases ht
   ·refine fin (h.frz hy hne) ?_ ht
    rw [hfx]; simp [frzC, Ty.regs]
theorem ZB.tail {p r : Nat} {y : TV} (h : ZB p r y s) (hy : y.t.regs = []) {o : Oper} (hd : o.dst ≠ some p) (ht : isTail o = true) {id : Nat} {e : Eff R} (he : opD tb Γ o id s = some e) (hf : freshE s id e = true) (v : e.T.den × ODen e.nt × ODen e.ut) : ZB p r y (e.out o.dst id v) := by
 have hid : id ≠ r := fun e0 => by
  have := (freshE_law hf).1
  rw [← isFresh_iff, e0, h.live] at this; cases this
 unfold isTail at ht
 unfold opD at he
 have one : ∀ {s1 : St} {T : Ty} {k : Cnd R T.den} (v), ZB p r y s1 → ZB p r y ((Eff.one s1 T k).out o.dst id v) := fun v h1 => h1.put hd
 have new : ∀ {s1 : St} {T t : Ty} {k : Cnd R (T.den × List t.den)} (v), ZB p r y s1 → ZB p r y ((Eff.new s1 T t k).out o.dst id v) := fun v h1 => (ZB.setObj h1 hid).put hd
 split at ht
 ·rename_i t m k x ho
  rw [ho] at he
  simp only at he
  unfold opMapUpdate at he
  split at he
  ·split at he
   ·cases he
   ·rename_i hx
    split at he
    ·rename_i y' s' hh
     have h1 := h.hold hy (by
      cases hq : (_ || _ : Bool) with
      | true => rfl
      | false => exact absurd (by rw [hq]; rfl) hx) hh
     split at he
     ·rename_i hc
      split at he
      ·split at he
       ·cases he
        have hne := h1.ne hc fun x e => by cases e
        exact ((h1.setObj hne).setObj hne).put hd
       ·cases he
      ·cases he
     ·cases he
    ·cases he
  ·cases he
 ·rename_i ags ats ho
  rw [ho] at he
  simp only at he
  unfold opApp at he
  split at he
  ·unfold opAppZ at he
   split at he
   ·split at he
    ·split at he
     ·cases he; exact new v h
     ·cases he
    ·cases he
   ·cases he
  ·unfold opAppend at he
   split at he
   ·split at he
    ·split at he
     ·split at he
      ·split at he
       ·cases he; exact one v h
       ·split at he
        ·split at he
         ·cases he; exact new v h
         ·cases he
        ·cases he
      ·split at he
       ·rename_i ox s1 hown
        have h1 := h.ownc hown
        split at he
        ·split at he
         ·cases he; exact new v h1
         ·split at he
          ·split at he
           ·cases he; exact new v h1
           ·split at he
            ·cases he; exact new v h1
            ·cases he
          ·cases he
        ·cases he
       ·cases he
     ·cases he
    ·cases he
   ·cases he
 ·cases ht
theorem ZB.step {p r : Nat} {y : TV} (h : ZB p r y s) (hy : y.t.regs = []) {still : Bool} {U : Nat → List Nat} {i : Nat} {o : Oper} (hs : StepS tb Γ R ops base still false U i o s s') (hd : o.dst ≠ some p) (ht : still = true ∨ isTail o = true) : ZB p r y s' := by
 cases still with
 | true =>
  obtain ⟨T, v, nt, xs, kr, _, hn, e1, hkr, _⟩ := hs.still
  have hk : kr = none := by
   cases kr with
   | none => rfl
   | some q => cases (hkr q rfl).1
  subst hk
  exact ((ZB.setN h hn).put hd).eqv e1.symm
 | false =>
  have ht : isTail o = true := by simpa using ht
  cases hs with
  | skip sr hr hg hs => subst hs; exact (h.eqv hr).put hd
  | go sr hr e v hg he hst hu hf hv hs =>
   subst hs
   exact (h.eqv hr).tail hy hd ht he hf v
section
variable {S : World → Prop} {Z : St → Prop} {T : Act → Prop} {Q : Exit → Act → World → Prop}
theorem Tr_wpH {ap : Bool} {U : Nat → List Nat} (hT : TabOk P tb) (hΓ : CtrsOk P Γ) {g : Nat} {L : Array Bool → St → Prop} (hk : KeepsL T ops.toList) (hZ : ∀ i o s s', ops[i]? = some o → StepS tb Γ R ops base true ap U i o s s' → Z s → Z s') (hS : ∀ F ρ s a w, RelAt F0 M W0 F ρ s a w → Z s → T a → S w)
  (hL : ∀ listed s, L listed s → Z s → ∀ F ρ a w, RelAt F0 M W0 F ρ s a w → T a → wpAnyH P .any ops Q S g listed a w) :
  ∀ (f : Nat) (listed : Array Bool) (s : St), Tr tb Γ R ops base n ap U L f listed s → Z s → ∀ F ρ a w, RelAt F0 M W0 F ρ s a w → T a → wpAnyH P .any ops Q S (f + g) listed a w
 | 0, listed, s, h, hz, F, ρ, a, w, hr, ht => by rw [Nat.zero_add]; exact hL _ _ h hz _ _ _ _ hr ht
 | f + 1, listed, s, h, hz, F, ρ, a, w, hr, hta => by
  rw [show f + 1 + g = (f + g) + 1 by omega]
  refine ⟨fun h0 => absurd h0 h.1, fun i hi => ?_⟩
  obtain ⟨_, o, s', ho, hs, ht⟩ := h.2 i hi
  have hz' := hZ i o s s' ho hs hz
  have := step_wp (Q := Q) (K := fun a' w' => S w' ∧ wpAnyH P .any ops Q S (f + g) (listed.setIfInBounds i true) a' w') hT hΓ hr hs fun F' ρ' val w' h' =>
   have ht' := hk o (by simpa using Array.mem_of_getElem? ho) a val hta
   ⟨hS _ _ _ _ _ h' hz' ht', Tr_wpH hT hΓ hk hZ hS hL f _ s' ht hz' F' ρ' _ w' h' ht'⟩
  unfold wpOp
  simp only [ho]
  split
  ·rename_i hc; rw [if_pos hc] at this; exact .inl this
  ·rename_i hc; rw [if_neg hc] at this; exact this
theorem seq_wpH {ap : Bool} {U : Nat → List Nat} (hT : TabOk P tb) (hΓ : CtrsOk P Γ) (hZ : ∀ st i o s s', ops[i]? = some o → n ≤ i → StepS tb Γ R ops base st ap U i o s s' → Z s → Z s') (hS : ∀ F ρ s a w, RelAt F0 M W0 F ρ s a w → Z s → T a → S w) {s' : St}
  (hQ : ∀ F' ρ' a' w', RelAt F0 M W0 F' ρ' s' a' w' → T a' → Q .normal a' w') : ∀ {l : List Oper} {k : Nat} {s : St}, Run tb Γ R ops base n ap U l k s s' → n ≤ k → (∀ j, l[j]? = ops[k + j]?) → KeepsL T l → ∀ {listed : Array Bool}, Region.seqB .any ops l.length k listed = true → Z s →
   ∀ {F ρ a w}, RelAt F0 M W0 F ρ s a w → T a → wpAnyH P .any ops Q S l.length listed a w := by
 intro l k s hr
 induction hr with
 | nil k s => intro _ _ _ listed hB hz F ρ a w h ht; exact ⟨by simpa [Region.seqB] using hB, hQ _ _ _ _ h ht⟩
 | @cons o l k s s1 s2 h1 hr ih =>
  intro hnk hl hk listed hB hz F ρ a w h ht
  have h0 : ops[k]? = some o := by simpa using (hl 0).symm
  simp only [List.length_cons, Region.seqB, Bool.and_eq_true, decide_eq_true_eq] at hB
  refine ⟨fun h9 => (by rw [hB.1] at h9; cases h9), fun i hi => ?_⟩
  rw [hB.1] at hi
  have hik : i = k := by simpa using hi
  subst hik
  have hz' := hZ _ i o s s1 h0 hnk h1 hz
  have := step_wp (Q := Q) (K := fun a' w' => S w' ∧ wpAnyH P .any ops Q S l.length (listed.setIfInBounds i true) a' w') hT hΓ h h1 fun F' ρ' val w' h' =>
   have ht' := hk o (by simp) a val ht
   ⟨hS _ _ _ _ _ h' hz' ht', ih hQ (by omega) (fun j => by have := hl (j + 1); simpa [Nat.add_assoc, Nat.add_comm 1 j] using this) (fun o ho => hk o (by simp [ho])) hB.2 hz' h' ht'⟩
  unfold wpOp
  simp only [h0]
  split
  ·rename_i hc; rw [if_pos hc] at this; exact .inl this
  ·rename_i hc; rw [if_neg hc] at this; exact this
theorem any_wpH {U : Nat → List Nat} (hU : ApartU U) (hT : TabOk P tb) (hΓ : CtrsOk P Γ) (h : RelAt F0 M W0 F ρ s a w) (hn : headLen ops = some n) {s' : St} (hr : Run tb Γ R ops base n false U ops.toList 0 s s') (hk : KeepsL T ops.toList) (ht : T a)
  (hz : Z s) (hZ : ∀ st i o s s', ops[i]? = some o → (st = true ∨ n ≤ i) → StepS tb Γ R ops base st false U i o s s' → Z s → Z s') (hE : ∀ s s' : St, Z s → s.Eqv s' → Z s') (hS : ∀ F ρ s a w, RelAt F0 M W0 F ρ s a w → Z s → T a → S w)
  (hQ : ∀ F' ρ' a' w', RelAt F0 M W0 F' ρ' s' a' w' → T a' → Q .normal a' w') : wpAnyH P .any ops Q S ops.size (Array.replicate ops.size false) a w := by
 obtain ⟨hlex, hcase⟩ := headLen_spec hn
 have hns : n ≤ ops.size := by omega
 have htl : (ops.toList.take n).length = n := by simp; omega
 have inv0 : HeadInv .any ops n (Array.replicate ops.size false) :=
  ⟨by simp, fun j oj _ hl => (by rw [getD_replicate_false] at hl; cases hl), fun t _ ht => getD_in (by simpa using ht) (getD_replicate_false _ _)⟩
 have hlt : ∀ i listed, i < n → HeadInv .any ops n listed → listed.getD i true = false → ∀ j ∈ Region.ready .any ops listed, j < n := fun i listed hi inv hun j hj => by
  rcases hcase with rfl | ⟨h1, h2, h3⟩
  ·obtain ⟨_, o, ho, _⟩ := mem_ready.1 hj
   exact (Array.getElem?_eq_some_iff.1 ho).1
  ·rcases Nat.lt_or_ge j n with h4 | h4
   ·exact h4
   ·exact absurd hj (tail_waits h2 h3 h1 inv _ i rfl hi hun j h4)
 obtain ⟨s1, r1, r2⟩ := hr.split (m := n)
 rw [htl, Nat.zero_add] at r2
 have H := Tr_lex hU hT hΓ (g := ops.size - n) hlt (ops.toList.take n) 0 (Array.replicate ops.size false) s (fun j hj => by
  have hj' : j < n := by rw [htl] at hj; exact hj
  simp [hj']) (by simpa using htl) ⟨F, ρ, a, w, h⟩ inv0 (by rw [htl]; exact hlex) r1
 have key : ∀ (f : Nat) (listed : Array Bool) (s : St), Tr tb Γ R ops base n false U (fun listed' s2 => Region.seqB .any ops (ops.size - n) n listed' = true ∧ s2.Eqv s1) f listed s → Z s → ∀ F ρ a w, RelAt F0 M W0 F ρ s a w → T a → wpAnyH P .any ops Q S (f + (ops.size - n)) listed a w :=
  Tr_wpH (Q := Q) (T := T) hT hΓ (g := ops.size - n) hk (fun i o s s' ho hs => hZ true i o s s' ho (.inl rfl) hs) hS (fun listed s2 hL hz2 F ρ a w hr ht => by
   have hdl : (ops.toList.drop n).length = ops.size - n := by simp
   have := seq_wpH (Q := Q) (T := T) (S := S) (Z := Z) (listed := listed) hT hΓ (fun st i o s s' ho hni hs => hZ st i o s s' ho (.inr hni) hs) hS hQ r2 (Nat.le_refl n) (fun j => by simp [List.getElem?_drop]) (fun o ho => hk o (List.mem_of_mem_drop ho)) (by rw [hdl]; exact hL.1) (hE _ _ hz2 hL.2) (hr.eqv hL.2) ht
   rwa [hdl] at this)
 have := key _ _ _ H hz F ρ a w h ht
 rw [htl, show n + (ops.size - n) = ops.size by omega] at this
 exact this
theorem patch_anyH {n : Nat} {L : List Nat} : ∀ (f : Nat) (listed : Array Bool) (a : Act) (w : World), (∀ k ∈ L, listed.getD k false = true) → wpAnyH P .any (patchAt n L ops) Q S f listed a w → wpAnyH P .any ops Q S f listed a w
 | 0, _, _, _, hL, h1 => ⟨by rw [← patch_ready hL]; exact h1.1, h1.2⟩
 | f + 1, listed, a, w, hL, h1 => by
  have hr := patch_ready (n := n) (ops := ops) hL
  refine ⟨fun h0 => h1.1 (by rw [hr]; exact h0), fun i hi => patch_wpOp (fun a w h2 => ⟨h2.1, patch_anyH f _ a w (fun k hk => getD_set_true (hL k hk)) h2.2⟩) (h1.2 i (by rw [hr]; exact hi))⟩
theorem take1H {n : Nat} {L : List Nat} (hs : Region.noSelect ops = true) (hQ : ∀ e a w, Q e a w → e = .normal) {l : Nat} {o : Oper} {v : Value} {f : Nat} {listed : Array Bool} {a : Act} {w : World} (ho : ops[l]? = some o) (hg : o.guard = none) (ht : takes1 ops (patchAt n L ops) listed l = true)
  (hrun : ∀ w, S w → (execOp a.eval o).run P w = .ok (.value v) w) (hS : S w) (h : wpAnyH P .any (patchAt n L ops) Q S (f + 1) listed a w)
  (hn : wpAnyH P .any (patchAt n L ops) Q S f (listed.setIfInBounds l true) (a.put o.dst v) w → wpAnyH P .any ops Q S f (listed.setIfInBounds l true) (a.put o.dst v) w) : wpAnyH P .any ops Q S (f + 1) listed a w := by
 simp only [takes1, Bool.and_eq_true] at ht
 obtain ⟨⟨h2, h3⟩, h4⟩ := ht
 have hw : ∀ y, Region.wanted o y = true := fun y => by simp [Region.wanted, hg]
 have hstep := h.2 l (by simpa using h3)
 have hstep := patch_wpOp (K' := fun a' w' => S w' ∧ wpAnyH P .any (patchAt n L ops) Q S f (listed.setIfInBounds l true) a' w') (fun _ _ h => h) hstep
 unfold wpOp at hstep
 simp only [ho, hw, if_true] at hstep
 have hK : wpAnyH P .any (patchAt n L ops) Q S f (listed.setIfInBounds l true) (a.put o.dst v) w := by
  rcases hstep with h6 | ⟨_, a1, w1, h7⟩
  ·unfold Oper.wp at h6
   rw [hrun w hS] at h6
   exact h6.2
  ·have := hQ _ _ _ h7; cases this
 exact wpAnyH_take ho hs h4 h2 (fun c a w h => by have := hQ _ _ _ h; cases this) (.inl ⟨hw _, hrun⟩) hS (hn hK)
end
theorem mapLoose_spec {n m l0 l1 l2 : Nat} (h : mapLoose tb s ops = some (n, m, l0, l1, l2)) : ∃ d0 x0 d1 t p f T r fs ti off ft y, ∃ l : Lens y.t, ∃ o0 o1 o2 i,
  ops[l0]? = some o0 ∧ ops[l1]? = some o1 ∧ ops[l2]? = some o2 ∧ (o0.op = .move x0 ∧ o0.guard = none ∧ o0.dst = d0) ∧ (o1.op = .fieldAddr t (.tmp p) f ∧ o1.guard = none ∧ o1.dst = some d1) ∧ (o2.op = .load T (.tmp d1) ∧ o2.guard = none) ∧
  s.get p = some ⟨.pad r 0, ()⟩ ∧ tb.get t = some i ∧ i.kd = .struct fs ∧ fs[f]? = some (off, ft) ∧ tb.get T = some ti ∧ s.bx r = some y ∧ comp y.t off ti.sz ti.agg = some l ∧ headLen (patchAt n [l0, l1, l2] ops) = some m ∧ isIntT' l.t = true ∧ y.t.regs = [] ∧ d1 < s.n ∧ d0 ≠ some d1 ∧ looseOk ops n l0 l1 l2 p m = true := by
 unfold mapLoose at h
 split at h
 ·cases h
 split at h
 ·cases h
 ·split at h
  ·split at h
   ·rename_i d0 x0 ty0 ps0 af0 d1 t p f ty1 ps1 af1 d2 T q ty2 ps2 af2 h0 h1 h2
    split at h
    ·rename_i r u sz by' ag fs ty ze eb ti hp ht hT
     split at h
     ·rename_i off ft y hf hy
      split at h
      ·rename_i l m' hl hm
       split at h
       ·rename_i hc
        cases h
        simp only [Bool.and_eq_true] at hc
        obtain ⟨⟨c1, c6⟩, c2, c3, c4, c5⟩ := hc
        have c2 := Nat.eq_of_beq_eq_true c2
        subst c2
        refine ⟨d0, x0, q, t, p, f, T, r, fs, ti, off, ft, y, l, _, _, _, _, h0, h1, h2, ⟨rfl, rfl, rfl⟩, ⟨rfl, rfl, rfl⟩, ⟨rfl, rfl⟩, hp, ht, rfl, hf, hT, hy, hl, hm, c1, by simpa using c6, by simpa [Nat.blt_eq] using c3, ?_, c5⟩
        intro e
        subst e
        simp [neDst, Nat.beq_refl] at c4
       ·cases h
      ·cases h
     ·cases h
    ·cases h
   ·cases h
  ·cases h
theorem noDst_spec {p : Nat} (h : noDst p ops = true) {i : Nat} {o : Oper} (ho : ops[i]? = some o) : o.dst ≠ some p := fun e => by
 have := List.all_eq_true.1 h o (by simpa using Array.mem_of_getElem? ho)
 simp [e, Nat.beq_refl] at this
theorem patch_noDst {p n : Nat} {L : List Nat} (h : noDst p ops = true) {i : Nat} {o : Oper} (ho : (patchAt n L ops)[i]? = some o) : o.dst ≠ some p := by
 have h1 := patch_dst (ops := ops) (n := n) (L := L) i
 rw [ho] at h1
 intro e
 simp only [Option.bind_some, e] at h1
 cases hi : ops[i]? with
 | none => rw [hi] at h1; cases h1
 | some o' => rw [hi] at h1; exact noDst_spec h hi h1.symm
theorem maploose_law (hT : TabOk P tb) (hΓ : CtrsOk P Γ) (h : RelAt F0 M W0 F ρ s a w) {n m l0 l1 l2 : Nat} (hm : mapLoose tb s ops = some (n, m, l0, l1, l2)) {U : Nat → List Nat} (hU : ApartU U) {k0 : Nat} {s' : St} (hr : Run tb Γ R (patchAt n [l0, l1, l2] ops) base m false U (patchAt n [l0, l1, l2] ops).toList 0 (s.room k0) s')
  {T : Act → Prop} (hk : KeepsL T (patchAt n [l0, l1, l2] ops).toList) (ht : T a) {Q : Exit → Act → World → Prop} (hQn : ∀ e a w, Q e a w → e = .normal) (hQ : ∀ F' ρ' a' w', RelAt F0 M W0 F' ρ' s' a' w' → T a' → Q .normal a' w') : wpAny P .any ops Q ops.size (Array.replicate ops.size false) a w := by
 obtain ⟨d0, x0, d1, t, p, f, TT, r, fs, ti, off, ft, y, l, o0, o1, o2, ii, h0, h1, h2, ⟨q0, q0g, q0d⟩, ⟨q1, q1g, q1d⟩, ⟨q2, q2g⟩, hp, hti, hkd, hfs, htT, hy, hl, hlen, hint, hyr, hd1, hd01, hok⟩ := mapLoose_spec hm
 simp only [looseOk, Bool.and_eq_true, decide_eq_true_eq] at hok
 obtain ⟨hsel, hno, t0, t1, t2, hsz, ⟨b0, b1, b2⟩, htl⟩ := hok
 obtain ⟨val, hpv, hpr⟩ := h.slot p _ hp
 obtain ⟨_, ri, pp, hri, hA, hval⟩ := hpr
 simp only [List.cons.injEq, and_true, Nat.add_zero] at hval
 obtain ⟨fields, fd, inf, u1, u2, u3, u4, u5, u6⟩ := fieldOff_law hT (f := f) (t := t) (off := off) (ft := ft) (by unfold fieldOff; rw [hti]; simp only [hkd]; exact hfs)
 obtain ⟨lt, lg, lp⟩ := l
 cases lt <;> simp only [isIntT', Bool.false_eq_true] at hint
 rename_i kk
 let A1 : Value := .pointer (some (adr (pp.1, pp.2 + off)))
 let S : World → Prop := fun w => (Instr.loadAt TT A1).run P w = .ok (.int kk (lg y.v)) w
 let T' : Act → Prop := fun a => T a ∧ a.tmps[p]? = some (.pointer (some (adr pp)))
 have hS : ∀ F ρ s a w, RelAt F0 M W0 F ρ s a w → ZB p r y s → T' a → S w := fun F ρ s a w h hz ht => by
  obtain ⟨val', e1, _, ri', p', e2, e3, e4⟩ := h.slot p _ hz.1
  rw [ht.2] at e1; cases e1
  simp only [List.cons.injEq, and_true, Value.pointer.injEq, Option.some.injEq] at e4
  have hpp : p' = pp := by
   obtain ⟨a1, a2⟩ := p'
   obtain ⟨b1, b2⟩ := pp
   simp only [adr, Addr.mk.injEq, Nat.add_zero] at e4
   rw [e4.1, e4.2.1]
  subst hpp
  obtain ⟨ri2, g0, hb⟩ := h.box r y hz.2
  rw [e2] at g0; cases g0
  obtain ⟨p2, ds, cells, el, g1, g2, g3, g4, g5⟩ := hb.ex
  rw [e3] at g1; cases g1
  obtain ⟨s1, s2, c1, c2, c3, e5, e6, h6, _⟩ := comp_law _ _ _ _ _ hl y.v ds g5
  subst e5
  have h7 := g4.part
  rw [e6] at h7
  obtain ⟨val, h8, h9⟩ := load_law (P := P) (hT TT ti htT) s2 s1 (comp_one _ _ _ _ _ hl) (comp_cell _ _ _ _ _ hl hb.cell) (p := (p'.1, p'.2 + off)) h7 h6
  obtain ⟨_, h9⟩ := h9
  simp only [Rep, List.cons.injEq, and_true] at h9
  subst h9
  show (Instr.loadAt TT A1).run P w = _
  simpa [Instr.loadAt, Instr.sureAddr, A1] using h8
 have hk' : KeepsL T' (patchAt n [l0, l1, l2] ops).toList := fun o ho a val ht => by
  refine ⟨hk o ho a val ht.1, ?_⟩
  obtain ⟨i, hi⟩ := List.mem_iff_getElem?.1 ho
  rw [Array.getElem?_toList] at hi
  have hd := patch_noDst hno hi
  cases hdd : o.dst with
  | none => exact ht.2
  | some d =>
   simp only [Act.put, Array.getElem?_setIfInBounds]
   rw [if_neg (fun e => hd (by rw [hdd, e]))]
   exact ht.2
 have hz : ZB p r y (s.room k0) := ⟨hp, hy⟩
 have H := any_wpH (S := S) (Z := ZB p r y) (T := T') (Q := Q) hU hT hΓ (h.room k0) hlen hr hk' ⟨ht, by rw [hpv, hval]⟩ hz (fun st i o s s' ho hst hs hz => by
  refine hz.step hyr hs (patch_noDst hno ho) ?_
  rcases hst with hst | hst
  ·exact .inl hst
  ·right
   refine List.all_eq_true.1 htl o ?_
   rw [List.mem_iff_getElem?]
   refine ⟨i - m, ?_⟩
   rw [List.getElem?_drop, show m + (i - m) = i by omega, Array.getElem?_toList]; exact ho) (fun s s' hz e => hz.eqv e) hS (fun F' ρ' a' w' h1 h2 => hQ F' ρ' a' w' h1 h2.1)
 rw [patch_size] at H
 obtain ⟨fz, hfz⟩ : ∃ f, ops.size = f + 3 := ⟨ops.size - 3, by omega⟩
 refine wpAny_of_held (S := S) _ _ _ _ ?_
 have hS0 : S w := hS _ _ _ _ _ (h.room k0) hz ⟨ht, by rw [hpv, hval]⟩
 rw [show ∀ (o : Array Oper) (l : Array Bool) a w, wpAnyH P .any o Q S ops.size l a w = wpAnyH P .any o Q S (fz + 1 + 1 + 1) l a w from fun _ _ _ _ => by rw [hfz]] at H ⊢
 have hgen : ∀ (u : Act) (v : Value) (i : Nat), u.tmps[i]? = some v → u.eval (.tmp i) = v := fun u v i h => by simp [Act.eval, Array.getD_eq_getD_getElem?, h]
 have hp1 : (a.put o0.dst (a.eval x0)).eval (.tmp p) = .pointer (some (adr pp)) := by
  have hd := noDst_spec hno h0
  have : (a.put o0.dst (a.eval x0)).tmps[p]? = some (.pointer (some (adr pp))) := by
   cases hdd : o0.dst with
   | none => rw [show (a.put none (a.eval x0)) = a from rfl, hpv, hval]
   | some d =>
    simp only [Act.put, Array.getElem?_setIfInBounds]
    rw [if_neg (fun e => hd (by rw [hdd, e])), hpv, hval]
  exact hgen _ _ _ this
 have hp2 : ((a.put o0.dst (a.eval x0)).put o1.dst A1).eval (.tmp d1) = A1 := by
  have hb : d1 < (a.put o0.dst (a.eval x0)).tmps.size := by
   obtain ⟨v9, e9, _⟩ := h.slot d1 _ (St.get_lt hd1)
   have : d1 < a.tmps.size := by
    rcases Nat.lt_or_ge d1 a.tmps.size with g | g
    ·exact g
    ·rw [Array.getElem?_eq_none g] at e9; cases e9
   cases hdd : o0.dst with
   | none => exact this
   | some d => simpa [Act.put] using this
  have hset : ∀ u : Act, d1 < u.tmps.size → (u.put (some d1) A1).tmps[d1]? = some A1 := fun u hb => by simp [Act.put, hb]
  rw [q1d]
  exact hgen _ _ _ (hset _ hb)
 refine take1H hsel hQn h0 q0g t0 (fun w _ => by simp only [execOp, q0]; rfl) hS0 H fun H => ?_
 refine take1H (v := A1) hsel hQn h1 q1g t1 (fun w _ => ?_) hS0 H fun H => ?_
 ·simp only [execOp, q1, hp1, Sem.run_bind, Instr.fieldAt, run_underlying u1, Result.andThen_ok, u2, Instr.sureAddr, Sem.run_pure, fieldPlace, u4, run_sizeOf u5, Sem.run_ite, if_neg u6, adr_add, u3]
  rfl
 refine take1H (v := .int kk (lg y.v)) hsel hQn h2 q2g t2 (fun w hSw => ?_) hS0 H fun H => ?_
 ·simp only [execOp, q2, hp2, Sem.run_bind]
  rw [show (Instr.loadAt TT A1).run P w = _ from hSw]
  rfl
 refine patch_anyH _ _ _ _ (fun k hk => ?_) H
 have hin : ∀ (l : Array Bool) (i : Nat), i < ops.size → l.size = ops.size → (l.setIfInBounds i true).getD i false = true := fun l i hi hl => by
  simp [Array.getD_eq_getD_getElem?, hl, hi]
 simp only [List.mem_cons, List.mem_nil_iff, or_false] at hk
 rcases hk with rfl | rfl | rfl
 ·exact getD_set_true (getD_set_true (hin _ _ b0 (by simp)))
 ·exact getD_set_true (hin _ _ b1 (by simp))
 ·exact hin _ _ b2 (by simp)
theorem RelAt.drew (h : RelAt F0 M W0 F ρ s a w) (n : Nat) : RelAt F0 M W0 F ρ s a { w with drawn := n } := h.grow (Kept.drew _ w n)
theorem region_law (hT : TabOk P tb) (hΓ : CtrsOk P Γ) (hm : P.follows .mixedOrders = true) {H : Nat → Option LH} {fuel nn : Nat} (h : RelAt F0 M W0 F ρ s a w) {id : Nat} {draw : Bool} {K : EK → St → Option R} {r : R}
  (hs : sem tb Γ H fuel nn (.region id ops draw) s K = some r) {T : Act → Prop} (hk : KeepsL T ops.toList) (ht : T a) {Q : Exit → Act → World → Prop} (hQ : ∀ F' ρ' s' a' w', K .normal s' = some r → RelAt F0 M W0 F' ρ' s' a' w' → T a' → Q .normal a' w') :
  (Code.region id ops draw).wp P Q a w := by
 unfold sem at hs
 cases draw with
 | true =>
  simp only [if_true] at hs
  split at hs
  ·rename_i n m l0 l1 l2 hml
   obtain ⟨U, s', h1, h2, _, hU, _⟩ := semOps_run _ _ _ _ hs
   have hk' : KeepsL T (patchAt n [l0, l1, l2] ops).toList := fun o ho a val hta => by
    obtain ⟨i, hi⟩ := List.mem_iff_getElem?.1 ho
    rw [Array.getElem?_toList, patch_get] at hi
    split at hi
    ·cases hoi : ops[i]? with
     | none => rw [hoi] at hi; cases hi
     | some o' =>
      rw [hoi] at hi; cases hi
      exact hk o' (by simpa using Array.mem_of_getElem? hoi) a val hta
    ·exact hk o (by simpa using Array.mem_of_getElem? hi) a val hta
   exact wp_region_any hm (wpAny_monoQ (Q' := fun e a w => e = .normal ∧ Q .normal a w) (fun e a w h => by obtain ⟨rfl, h⟩ := h; exact h) _ _ _ _
    (maploose_law hT hΓ (h.drew (w.drawn + 1)) hml hU h1 hk' ht (fun e a w h => h.1) fun F' ρ' a' w' h3 h4 => ⟨rfl, hQ F' ρ' s' a' w' h2 h3 h4⟩))
  split at hs
  ·split at hs
   ·rename_i n hn
    obtain ⟨U, s', h1, h2, _, hU, _⟩ := semOps_run _ _ _ _ hs
    exact wp_region_any hm (any_wp hU hT hΓ ((h.room _).drew _) hn h1 hk ht fun F' ρ' a' w' h' => hQ F' ρ' s' a' w' h2 h')
   ·cases hs
  ·rename_i m L hp
   split at hs
   ·rename_i n hn
    split at hn <;> first | cases hn; done | skip
    rename_i hlr
    obtain ⟨U, s', h1, h2, _, hU, _⟩ := semOps_run _ _ _ _ hs
    obtain ⟨hns, hlen, htk⟩ := regPatch_spec hp
    have hk' : KeepsL T (patchAt m L ops).toList := fun o ho a val hta => by
     obtain ⟨i, hi⟩ := List.mem_iff_getElem?.1 ho
     rw [Array.getElem?_toList, patch_get] at hi
     split at hi
     ·cases hoi : ops[i]? with
      | none => rw [hoi] at hi; cases hi
      | some o' =>
       rw [hoi] at hi; cases hi
       exact hk o' (by simpa using Array.mem_of_getElem? hoi) a val hta
     ·exact hk o (by simpa using Array.mem_of_getElem? hi) a val hta
    have := any_wp (Q := fun e a w => e = .normal ∧ Q .normal a w) hU hT hΓ ((h.room _).drew (w.drawn + 1)) hn h1 hk' ht fun F' ρ' a' w' h' h3 => ⟨rfl, hQ F' ρ' s' a' w' h2 h' h3⟩
    rw [patch_size] at this
    obtain ⟨f, hf⟩ : ∃ f, ops.size = f + L.length := ⟨ops.size - L.length, by omega⟩
    refine wp_region_any hm (wpAny_monoQ (Q' := fun e a w => e = .normal ∧ Q .normal a w) (fun e a w h => by obtain ⟨rfl, h⟩ := h; exact h) _ _ _ _ ?_)
    rw [show ∀ (l : Array Bool) a w, wpAny P .any ops (fun e a w => e = .normal ∧ Q .normal a w) ops.size l a w = wpAny P .any ops (fun e a w => e = .normal ∧ Q .normal a w) (f + L.length) l a w from fun _ _ _ => by rw [← hf]]
    have hI : IntsAt (s.room (32 * (patchAt m L ops).size)) a := by
     refine ⟨fun i hi => ?_, fun i k n hi => ?_⟩
     ·obtain ⟨val, e1, _⟩ := h.slot i _ (St.get_lt (s := s) hi)
      rcases Nat.lt_or_ge i a.tmps.size with h9 | h9
      ·exact h9
      ·rw [Array.getElem?_eq_none h9] at e1; cases e1
     ·obtain ⟨val, e1, e2⟩ := (h.room (patchAt m L ops).size).slot i _ hi
      obtain ⟨_, e3⟩ := e2
      have : val = .int k n := by simpa [Rep] using e3
      rw [e1, this]
    refine takes_any hns (fun e a w h => h.1) L f _ _ _ _ htk hI hlr ?_
    rw [← hf]
    exact this
   ·cases hs
 | false =>
  simp only [Bool.false_eq_true, if_false] at hs
  obtain ⟨U, s', h1, h2, _, hU, _⟩ := semOps_run _ _ _ _ hs
  exact wp_region_list (run_wp hT hΓ (fun F' ρ' a' w' h' => hQ F' ρ' s' a' w' h2 h') h1 hk (h.room _) ht)
end Go.Vu
