/- Value semantics, part 22: two operations change places. -/
import Derived.Test.YtaeobljnmfbdmaaVuLaw15
set_option linter.unusedVariables false
namespace Go.Vu
open Go
variable {P : Program} {tb : Tab} {R : Type} {s s' : St} {id : Nat}
def AgrT : Nat → St → St → Ty → Prop
 | 0, _, _, t => t.regs = []
 | n + 1, s, s', t => ∀ r ∈ t.regs, s'.cont r = s.cont r ∧ ∀ y, s.bx r = some y → AgrT n s s' y.t
def Agr (s s' : St) (x : TV) : Prop := ∃ n, AgrT n s s' x.t
theorem Agr.none {x : TV} (h : x.t.regs = []) : Agr s s' x := ⟨0, h⟩
theorem AgrT.sub {n : Nat} {t u : Ty} (h : AgrT n s s' t) (hs : ∀ r ∈ u.regs, r ∈ t.regs) : AgrT n s s' u := by
 cases n with
 | zero =>
  have h : t.regs = [] := h
  exact List.eq_nil_iff_forall_not_mem.2 fun r hr => by have := hs r hr; rw [h] at this; cases this
 | succ n => exact fun r hr => h r (hs r hr)
theorem Agr.c {x : TV} (h : Agr s s' x) {r : Nat} (hr : r ∈ x.t.regs) : s'.cont r = s.cont r := by
 obtain ⟨n, h⟩ := h
 cases n with
 | zero => have h : x.t.regs = [] := h; rw [h] at hr; cases hr
 | succ n => exact (h r hr).1
theorem Agr.box {x : TV} (h : Agr s s' x) {r : Nat} (hr : r ∈ x.t.regs) {y : TV} (hy : s.bx r = some y) : Agr s s' y := by
 obtain ⟨n, h⟩ := h
 cases n with
 | zero => have h : x.t.regs = [] := h; rw [h] at hr; cases hr
 | succ n => exact ⟨n, (h r hr).2 y hy⟩
theorem Agr.fst {a b : Ty} {v : (Ty.pair a b).den} (h : Agr s s' ⟨.pair a b, v⟩) : Agr s s' ⟨a, v.1⟩ := let ⟨n, h⟩ := h; ⟨n, h.sub fun r hr => by simp [Ty.regs]; exact .inl hr⟩
theorem Agr.snd {a b : Ty} {v : (Ty.pair a b).den} (h : Agr s s' ⟨.pair a b, v⟩) : Agr s s' ⟨b, v.2⟩ := let ⟨n, h⟩ := h; ⟨n, h.sub fun r hr => by simp [Ty.regs]; exact .inr hr⟩
theorem Agr.sub {a : Ty} {v : (Ty.st a).den} (h : Agr s s' ⟨.st a, v⟩) : Agr s s' ⟨a, v⟩ := let ⟨n, h⟩ := h; ⟨n, h.sub fun r hr => by simpa [Ty.regs] using hr⟩
theorem agr_deep : ∀ (n m : Nat) (t : Ty), n ≤ m → deepOk (n + 1) s t = true → (∀ r ∈ regsD m s t, s'.cont r = s.cont r) → AgrT (n + 2) s s' t := by
 intro n
 induction n with
 | zero =>
  intro m t _ hd h r hr
  refine ⟨h r (regsD_mem hr), fun y hy q hq => ?_⟩
  have := List.all_eq_true.1 hd r hr
  rw [hy] at this
  simp only [deepOk, List.isEmpty_iff] at this
  rw [this] at hq; cases hq
 | succ n ih =>
  intro m t hm hd h r hr
  refine ⟨h r (regsD_mem hr), fun y hy => ?_⟩
  have h1 := List.all_eq_true.1 hd r hr
  rw [hy] at h1
  obtain ⟨m, rfl⟩ : ∃ k, m = k + 1 := ⟨m - 1, by omega⟩
  exact ih m y.t (by omega) h1 fun q hq => h q (by
   simp only [regsD]
   exact List.mem_append_right _ (List.mem_flatMap.2 ⟨r, hr, by rw [hy]; exact hq⟩))
theorem Agr.clo {f : Nat} {a : Ty} {v : (Ty.clo f a).den} (h : Agr s s' ⟨.clo f a, v⟩) : Agr s s' ⟨a, v⟩ := let ⟨n, h⟩ := h; ⟨n, h.sub fun r hr => by simpa [Ty.regs] using hr⟩
theorem rdV_congr (hp : s'.pls = s.pls) : ∀ (T : Ty) {x : TV}, Agr s s' x → rdV s' T x = rdV s T x
 | .st t, x, h => by
  obtain ⟨xt, xv⟩ := x
  cases xt <;> simp only [rdV]
  exact rdV_congr hp t h.sub
 | .pair p q, x, h => by
  obtain ⟨xt, xv⟩ := x
  cases xt <;> simp only [rdV]
  rw [rdV_congr hp p h.fst, rdV_congr hp q h.snd]
 | .slice t, x, h => by
  obtain ⟨xt, xv⟩ := x
  cases xt <;> simp only [rdV]
  ·rw [hp]
  ·rename_i r; rw [obj_congr (h.c (r := r) (by simp [Ty.regs])), hp]
  ·rename_i r; rw [obj_congr (h.c (r := r) (by simp [Ty.regs])), hp]
  ·rw [hp]
 | .rad t o, x, h => by
  obtain ⟨xt, xv⟩ := x
  cases xt <;> simp only [rdV]
  rename_i q o'
  rw [bx_congr (h.c (by simp [Ty.regs]))]
  cases hb : s.bx q with
  | none => rfl
  | some y => simp only; rw [rdV_congr hp t (h.box (by simp [Ty.regs]) hb)]
 | .ptr t, x, h => by
  obtain ⟨xt, xv⟩ := x
  cases xt <;> simp only [rdV]
  rename_i q o'
  cases o' with
  | succ n => rfl
  | zero =>
   simp only
   rw [bx_congr (h.c (by simp [Ty.regs]))]
   cases hb : s.bx q with
   | none => rfl
   | some y => simp only; rw [rdV_congr hp t (h.box (by simp [Ty.regs]) hb)]
 | .clo f t, x, h => by
  obtain ⟨xt, xv⟩ := x
  cases xt <;> simp only [rdV]
  rw [rdV_congr hp t h.clo]
 | .int _, _, _ => rfl
 | .bool, _, _ => rfl
 | .str, _, _ => rfl
 | .unit, _, _ => rfl
 | .sln _, _, _ => rfl
 | .ow _, _, _ => rfl
 | .osl _, _, _ => rfl
 | .oad _ _, _, _ => rfl
 | .tup _, _, _ => rfl
 | .nils, _, _ => rfl
 | .nilp, _, _ => rfl
 | .lost, _, _ => rfl
 | .any, _, _ => rfl
 | .nxt _ _, _, _ => rfl
 | .psl _, _, _ => rfl
 | .pdd _ _, _, _ => rfl
 | .pad _ _, _, _ => rfl
 | .mpv _, _, _ => rfl
 | .mpc _ _, _, _ => rfl
 | .mit _ _, _, _ => rfl
 | .fmp k t, x, h => by
  obtain ⟨xt, xv⟩ := x
  cases xt <;> simp only [rdV]
  rename_i r
  rw [h.c (r := r) (by simp [Ty.regs]), hp]
 | .vec _, _, _ => rfl
 | .bx _, _, _ => rfl
 | .iter, _, _ => rfl
theorem cls_congr_leaf (hp : s'.pls = s.pls) {T : Ty} (he : ∀ s x, cls s T x = (match rdV s T x with | some (v, fr, k) => if T.hold then some (v, [], fr, k) else none | none => none)) {x : TV} (h : Agr s s' x) : cls s' T x = cls s T x := by
 rw [he, he, rdV_congr hp T h]
theorem cls_congr (hp : s'.pls = s.pls) : ∀ (T : Ty) {x : TV}, Agr s s' x → cls s' T x = cls s T x
 | .vec t, x, h => by
  obtain ⟨xt, xv⟩ := x
  cases xt <;> simp only [cls]
  ·rw [obj_congr (h.c (by simp [Ty.regs]))]
  ·rw [obj_congr (h.c (by simp [Ty.regs]))]
  ·rw [hp]
 | .iter, x, h => by
  obtain ⟨xt, xv⟩ := x
  cases xt <;> simp only [cls]
  rename_i q o'
  cases o' with
  | succ n => rfl
  | zero => simp only; rw [itc_congr (h.c (by simp [Ty.regs]))]
 | .bx t, x, h => by
  obtain ⟨xt, xv⟩ := x
  cases xt <;> simp only [cls]
  rename_i q o'
  cases o' with
  | succ n => rfl
  | zero =>
   simp only
   rw [bx_congr (h.c (by simp [Ty.regs]))]
   cases hb : s.bx q with
   | none => rfl
   | some y => simp only; rw [cls_congr hp t (h.box (by simp [Ty.regs]) hb)]
 | .st t, x, h => by
  obtain ⟨xt, xv⟩ := x
  cases xt <;> simp only [cls]
  exact cls_congr hp t h.sub
 | .pair p q, x, h => by
  obtain ⟨xt, xv⟩ := x
  cases xt <;> simp only [cls]
  rw [cls_congr hp p h.fst, cls_congr hp q h.snd]
 | .int _, _, h => cls_congr_leaf hp (fun _ _ => rfl) h
 | .bool, _, h => cls_congr_leaf hp (fun _ _ => rfl) h
 | .str, _, h => cls_congr_leaf hp (fun _ _ => rfl) h
 | .unit, _, h => cls_congr_leaf hp (fun _ _ => rfl) h
 | .slice _, _, h => cls_congr_leaf hp (fun _ _ => rfl) h
 | .sln _, _, h => cls_congr_leaf hp (fun _ _ => rfl) h
 | .ptr _, _, h => cls_congr_leaf hp (fun _ _ => rfl) h
 | .rad _ _, _, h => cls_congr_leaf hp (fun _ _ => rfl) h
 | .ow _, _, h => cls_congr_leaf hp (fun _ _ => rfl) h
 | .osl _, _, h => cls_congr_leaf hp (fun _ _ => rfl) h
 | .oad _ _, _, h => cls_congr_leaf hp (fun _ _ => rfl) h
 | .clo _ _, _, h => cls_congr_leaf hp (fun _ _ => rfl) h
 | .tup _, _, h => cls_congr_leaf hp (fun _ _ => rfl) h
 | .nils, _, h => cls_congr_leaf hp (fun _ _ => rfl) h
 | .nilp, _, h => cls_congr_leaf hp (fun _ _ => rfl) h
 | .lost, _, h => cls_congr_leaf hp (fun _ _ => rfl) h
 | .any, _, h => cls_congr_leaf hp (fun _ _ => rfl) h
 | .nxt _ _, _, h => cls_congr_leaf hp (fun _ _ => rfl) h
 | .psl _, _, h => cls_congr_leaf hp (fun _ _ => rfl) h
 | .pdd _ _, _, h => cls_congr_leaf hp (fun _ _ => rfl) h
 | .pad _ _, _, h => cls_congr_leaf hp (fun _ _ => rfl) h
 | .mpv _, _, h => cls_congr_leaf hp (fun _ _ => rfl) h
 | .fmp _ _, _, h => cls_congr_leaf hp (fun _ _ => rfl) h
 | .mpc _ _, x, h => by
  obtain ⟨xt, xv⟩ := x
  cases xt <;> simp only [cls]
  rw [h.c (by simp [Ty.regs])]
 | .mit _ _, x, h => by
  obtain ⟨xt, xv⟩ := x
  cases xt <;> simp only [cls]
  rename_i q o'
  cases o' with
  | succ n => rfl
  | zero => simp only; rw [h.c (by simp [Ty.regs])]
theorem packP_congr (hp : s'.pls = s.pls) : ∀ (qs : List (Nat × Ty)), packP s' qs = packP s qs
 | [] => rfl
 | (k, t) :: qs => by simp only [packP, hp, packP_congr hp qs]
theorem wholeB_congr (hp : s'.pls = s.pls) {x : TV} : wholeB s' x = wholeB s x := by simp only [wholeB, hp]
theorem argsD_congr (hp : s'.pls = s.pls) : ∀ {ps : List PM} {xs : List TV}, (∀ x ∈ xs, Agr s s' x) → argsD s' ps xs = argsD s ps xs
 | [], [], _ => rfl
 | [], _ :: _, _ => rfl
 | .ro t :: ps, [], _ => rfl
 | .mu t :: ps, [], _ => rfl
 | .own t :: ps, [], _ => rfl
 | .ownp qs t :: ps, [], _ => rfl
 | .ro t :: ps, x :: xs, h => by
  have ih := argsD_congr hp (ps := ps) (xs := xs) fun y hy => h y (by simp [hy])
  simp only [argsD]
  rw [ih, rdV_congr hp t (h x (by simp))]
 | .mu t :: ps, x :: xs, h => by
  have ih := argsD_congr hp (ps := ps) (xs := xs) fun y hy => h y (by simp [hy])
  simp only [argsD, wholeB_congr hp]
  rw [ih, cls_congr hp t (h x (by simp))]
 | .own t :: ps, x :: xs, h => by
  have ih := argsD_congr hp (ps := ps) (xs := xs) fun y hy => h y (by simp [hy])
  simp only [argsD]
  rw [ih, cls_congr hp t (h x (by simp))]
 | .ownp qs t :: ps, x :: xs, h => by
  have ih := argsD_congr hp (ps := ps) (xs := xs) fun y hy => h y (by simp [hy])
  simp only [argsD]
  rw [ih, cls_congr hp t (h x (by simp)), packP_congr hp]
theorem mutUp_congr (hp : s'.pls = s.pls) : ∀ {ps : List PM} {xs : List TV}, mutUp s' ps xs = mutUp s ps xs
 | [], _ => rfl
 | .mu (.vec _) :: _, x :: _ => by simp only [mutUp, hp]
 | .mu (.bx _) :: _, x :: _ => rfl
 | .ro _ :: ps, _ :: xs => by simp only [mutUp]; rw [mutUp_congr hp (ps := ps) (xs := xs)]
 | .own _ :: ps, _ :: xs => by simp only [mutUp]; rw [mutUp_congr hp (ps := ps) (xs := xs)]
 | .ownp _ _ :: ps, _ :: xs => by simp only [mutUp]; rw [mutUp_congr hp (ps := ps) (xs := xs)]
 | .ro _ :: _, [] => rfl
 | .own _ :: _, [] => rfl
 | .ownp _ _ :: _, [] => rfl
 | .mu t :: _, [] => by cases t <;> rfl
 | .mu (.int _) :: _, _ :: _ => rfl
 | .mu .bool :: _, _ :: _ => rfl
 | .mu .str :: _, _ :: _ => rfl
 | .mu .unit :: _, _ :: _ => rfl
 | .mu (.slice _) :: _, _ :: _ => rfl
 | .mu (.sln _) :: _, _ :: _ => rfl
 | .mu (.ptr _) :: _, _ :: _ => rfl
 | .mu (.rad _ _) :: _, _ :: _ => rfl
 | .mu (.ow _) :: _, _ :: _ => rfl
 | .mu (.osl _) :: _, _ :: _ => rfl
 | .mu (.oad _ _) :: _, _ :: _ => rfl
 | .mu (.clo _ _) :: _, _ :: _ => rfl
 | .mu (.tup _) :: _, _ :: _ => rfl
 | .mu .nils :: _, _ :: _ => rfl
 | .mu .nilp :: _, _ :: _ => rfl
 | .mu .lost :: _, _ :: _ => rfl
 | .mu .any :: _, _ :: _ => rfl
 | .mu (.nxt _ _) :: _, _ :: _ => rfl
 | .mu (.psl _) :: _, _ :: _ => rfl
 | .mu (.pdd _ _) :: _, _ :: _ => rfl
 | .mu (.pad _ _) :: _, _ :: _ => rfl
 | .mu (.st _) :: _, _ :: _ => rfl
 | .mu (.pair _ _) :: _, _ :: _ => rfl
 | .mu .iter :: _, _ :: _ => rfl
 | .mu (.mpv _) :: _, _ :: _ => rfl
 | .mu (.fmp _ _) :: _, _ :: _ => rfl
 | .mu (.mpc _ _) :: _, _ :: _ => rfl
 | .mu (.mit _ _) :: _, _ :: _ => rfl
theorem opCall_congr {Γ : Nat → List Ctr} {f : Nat} {xs : List TV} (hp : s'.pls = s.pls) (hx : ∀ x ∈ xs, Agr s s' x) {e : Eff R} (he : opCall Γ f xs id s = some e) (hk : e.kf = true) :
  e.base = s ∧ opCall Γ f xs id s' = some (e.at s') := by
 have key : ∀ l : List Ctr, opCall.go xs id s l = some e → e.base = s ∧ opCall.go xs id s' l = some (e.at s') := by
  intro l
  induction l with
  | nil => intro h; simp [opCall.go] at h
  | cons c l ih =>
   intro h
   simp only [opCall.go] at h ⊢
   have hpt : ∀ p, pty s' p = pty s p := fun p => by unfold pty; rw [hp]
   have hpk : plsOk s' (rPls c.rs) = plsOk s (rPls c.rs) := by simp only [plsOk, hpt]
   rw [argsD_congr hp hx, mutUp_congr hp, hpk]
   split at h
   ·rename_i ha; exact ih h
   ·rename_i v al mo ok ha
    split at h
    ·rename_i hc
     simp only [hc, if_true]
     split at h
     ·rename_i up base h1 h2
      obtain rfl := Option.some.inj h
      simp only [Bool.and_eq_true, List.isEmpty_iff, Bool.or_eq_true] at hk
      obtain ⟨hmo, hpn, hal⟩ := hk
      subst hmo
      simp only [h1]
      have hbs : ∀ s0 : St, bsOf s0 (rPls c.rs) = fun _ => 0 := fun s0 => by rw [hpn]; rfl
      cases hfl : (c.rs.all RM.flat && c.ps.all PM.mutFlat) with
      | true =>
       rw [hfl] at h2
       simp only [if_true, kills, Option.some.injEq] at h2 ⊢
       subst h2
       exact ⟨rfl, by simp [Eff.at, hbs]⟩
      | false =>
       have hal' : al = [] := by
        rcases hal with h3 | h3
        ·exact h3
        ·simp only [Bool.and_eq_false_iff] at hfl
         rcases hfl with h4 | h4
         ·rw [h3.1] at h4; cases h4
         ·rw [h3.2] at h4; cases h4
       subst hal'
       rw [hfl] at h2
       simp only [Bool.false_eq_true, if_false, kills, frzs, Option.some.injEq] at h2 ⊢
       subst h2
       exact ⟨rfl, by simp [Eff.at, hbs]⟩
     ·cases h
    ·cases h
 exact key _ he
theorem unchain_reg : ∀ (t : Ty) (v : t.den) (l : List TV), unchain t v = some l → ∀ x ∈ l, ∀ r ∈ x.t.regs, r ∈ t.regs := by
 intro t
 induction t with
 | pair a b iha ihb =>
  intro v l h x hx
  simp only [unchain] at h
  split at h
  ·rename_i hc
   split at h
   ·rename_i l' hl
    cases h
    rcases List.mem_cons.1 hx with rfl | hx
    ·exact fun r hr => by simp only [Ty.regs, List.mem_append]; exact .inl hr
    ·exact fun r hr => by simp only [Ty.regs, List.mem_append]; exact .inr (ihb _ _ hl x hx r hr)
   ·cases h
  ·cases h
 | unit => intro v l h x hx; simp only [unchain, Option.some.injEq] at h; subst h; simp at hx
 | _ => intro v l h; simp [unchain] at h
theorem evs_mem : ∀ {l : List Operand} {xs : List TV}, evs s l = some xs → ∀ x ∈ xs, ∃ o ∈ l, ev s o = some x
 | [], xs, h, x, hx => by simp only [evs, Option.some.injEq] at h; subst h; simp at hx
 | o :: l, xs, h, x, hx => by
  simp only [evs] at h
  split at h
  ·rename_i y ys hy hys
   cases h
   rcases List.mem_cons.1 hx with rfl | hx
   ·exact ⟨o, by simp, hy⟩
   ·obtain ⟨o', h1, h2⟩ := evs_mem hys x hx
    exact ⟨o', by simp [h1], h2⟩
  ·cases h
theorem opD_congr' {Γ : Nat → List Ctr} {o : Oper} {e : Eff R} (he : opD tb Γ o id s = some e) (hs : e.still o s = true) {s' : St} (h : ∀ x ∈ o.op.operands, Agree1 s s' x) :
  opD tb Γ o id s' = some (e.at s') := by
 simp only [Eff.still, Bool.and_eq_true] at hs
 obtain ⟨⟨hs1, hs2⟩, hs3⟩ := hs
 unfold opD at he ⊢
 unfold isStill at hs1
 cases ho : o.op <;> rw [ho] at he hs1 h <;> simp only [reduceCtorEq] at he <;> simp only [Bool.false_eq_true] at hs1 ⊢
 case move x => exact opMove_congr (h x (by simp [Op.operands])) he
 case assign x => exact opMove_congr (h x (by simp [Op.operands])) he
 case pick c x y => exact opPick_congr (h c (by simp [Op.operands])) (h x (by simp [Op.operands])) (h y (by simp [Op.operands])) he
 case alloc t => exact opAlloc_congr he
 case box t x => exact (opBox_congr (h x (by simp [Op.operands])) he).2
 case build t parts => exact (opBuild_congr (fun x hx => (h x (by simpa [Op.operands] using hx)).1) he).2
 case buildSlice t len parts => exact (opBuildSlice_congr (fun x hx => (h x (by simpa [Op.operands] using hx)).1) hs1 he).2
 case load t x => exact opLoad_congr (h x (by simp [Op.operands])) he
 case nilCheck x => exact opNilCheck_congr (h x (by simp [Op.operands])) he
 case range t x => exact opRange_congr (h x (by simp [Op.operands])) he hs3
 case lookup t x i b => exact opLookup_congr (h x (by simp [Op.operands])) (h i (by simp [Op.operands])) he
 case next x b =>
  unfold opNext at he
  split at he
  ·split at he
   ·cases he; cases hs2
   ·cases he
  ·cases he
 case binOp op t x y t2 => exact opBin_congr (h x (by simp [Op.operands])) (h y (by simp [Op.operands])) he
 case unOp op t x => exact opUn_congr (h x (by simp [Op.operands])) he
 case convert t1 t2 x => exact opConv_congr (h x (by simp [Op.operands])) he
 case makeFunc fn first captured => exact (opMakeFunc_congr (fun x hx => (h x (by simp [Op.operands]; right; simpa using hx)).1) hs1 he).2
 case makeSlice t l c => exact opMakeSlice_congr (h l (by simp [Op.operands])) (h c (by simp [Op.operands])) he
 case slice t x lo hi mx => exact opSlice_congr (h x (by simp [Op.operands])) (fun y hy => (h y (by simp [Op.operands, hy])).1) (fun y hy => (h y (by simp [Op.operands, hy])).1) he
 case fieldAddr t x f => exact opFieldAddr_congr (h x (by simp [Op.operands])) he
 case field t x f => exact opField_congr (h x (by simp [Op.operands])) he
 case indexAddr t x i => exact opIndexAddr_congr (h x (by simp [Op.operands])) (h i (by simp [Op.operands])) he
 case index t x i => exact opIndex_congr (h x (by simp [Op.operands])) (h i (by simp [Op.operands])) he
 case extract x i => exact opExtract_congr (h x (by simp [Op.operands])) he
 case call c =>
  have hargs : ∀ x ∈ c.args.toList, Agree1 s s' x := fun x hx => h x (by simp only [Op.operands, Call.operands]; simp at hx ⊢; exact .inr hx)
  cases hc : c.callee with
  | builtin b =>
   rw [hc] at he
   cases b <;> simp only [reduceCtorEq] at he ⊢
   case append =>
    obtain ⟨cl, ag, at'⟩ := c
    simp only at hc
    subst hc
    simp at hs1
   case clear =>
    obtain ⟨cl, ag, at'⟩ := c
    simp only at hc
    subst hc
    simp at hs1
   case cap =>
    split at he
    ·rename_i t x h1 h2
     exact opCapNil_congr (hargs x (by rw [h2]; simp)) he
    ·cases he
   case len =>
    split at he
    ·rename_i t x h1 h2
     exact opLen_congr (hargs x (by rw [h2]; simp)) he
    ·cases he
   case max => exact opMax_congr (fun x hx => (hargs x hx).1) he
   case min => exact opMin_congr (fun x hx => (hargs x hx).1) he
  | invoke r mth => rw [hc] at he; cases he
  | value fv =>
   rw [hc] at he
   simp only at he ⊢
   have hfv : Agree1 s s' fv := h fv (by simp [Op.operands, Call.operands, hc])
   rw [hfv.1, evs_congr fun x hx => (hargs x hx).1]
   split at he
   ·rename_i f q u xs hf hxs
    split at he
    ·rename_i ys hys
     have hd : depth1 s (fv :: c.args.toList) = true := by
      obtain ⟨cl, ag, at'⟩ := c
      simp only at hc
      subst hc
      simpa using hs1
     refine (opCall_congr hfv.2.2 (fun x hx => ?_) he hs3).2
     rcases List.mem_append.1 hx with hx | hx
     ·obtain ⟨y, hy, hy2⟩ := evs_mem hxs x hx
      have h1 := List.all_eq_true.1 hd y (List.mem_cons_of_mem _ hy)
      rw [hy2] at h1
      exact ⟨_, agr_deep 3 3 x.t (Nat.le_refl _) h1 ((hargs y hy).2.1 x hy2)⟩
     ·have h1 := List.all_eq_true.1 hd fv (List.mem_cons_self ..)
      rw [hf] at h1
      exact ⟨_, (agr_deep 3 3 _ (Nat.le_refl _) h1 (hfv.2.1 _ hf)).sub fun r hr => by simpa [Ty.regs] using unchain_reg _ _ _ hys x hx r hr⟩
    ·cases he
   ·cases he
theorem opD_congr {Γ : Nat → List Ctr} {o : Oper} (h : ∀ x ∈ o.op.operands, Agree1 s s' x) {e : Eff R} (he : opD tb Γ o id s = some e) (hs : e.still o s = true) :
  e.base = s ∧ opD tb Γ o id s' = some (e.at s') := by
 refine ⟨?_, opD_congr' he hs h⟩
 have := opD_congr' he hs (s' := s) fun x _ => ⟨rfl, fun _ _ _ _ => rfl, rfl⟩
 rw [he] at this
 have := Option.some.inj this
 rw [this]; rfl
def killO (s : St) : Option Nat → St
 | none => s
 | some r => s.setObj r .dead
theorem listTV_agree {x : Operand} {y : TV} (h : Agree1 s s' x) (hy : ev s x = some y) : listTVc s' y = listTVc s y :=
 listTVc_congr (fun r hr => h.2.1 _ hy r (regsD_mem hr)) h.2.2
theorem ownTV_agree {x : Operand} {y : TV} {ob : OBc} {sk : St} (h : Agree1 s s' x) (hy : ev s x = some y) (hps : ∀ p v, y ≠ ⟨.psl p, v⟩) (ho : ownTVc s y = some (ob, sk)) :
  ∃ r, regOf y.t = some r ∧ sk = s.setObj r .dead ∧ ownTVc s' y = some (ob, s'.setObj r .dead) := by
 obtain ⟨T, v⟩ := y
 have hx := h.2.1 ⟨T, v⟩ hy
 cases T <;> simp only [ownTVc, ownTV, reduceCtorEq] at ho
 ·rename_i r
  cases hob : s.obj r with
  | none => simp [hob] at ho
  | some ob' =>
   simp only [hob, Option.some.injEq, Prod.mk.injEq] at ho
   obtain ⟨rfl, rfl⟩ := ho
   exact ⟨r, rfl, rfl, by simp only [ownTVc, ownTV, obj_congr (hx r (regsD_mem (by simp [Ty.regs]))), hob]⟩
 ·rename_i r
  cases hob : s.obj r with
  | none => simp [hob] at ho
  | some ob' =>
   simp only [hob, Option.some.injEq, Prod.mk.injEq] at ho
   obtain ⟨rfl, rfl⟩ := ho
   exact ⟨r, rfl, rfl, by simp only [ownTVc, ownTV, obj_congr (hx r (regsD_mem (by simp [Ty.regs]))), hob]⟩
 ·exact absurd rfl (hps _ _)
def appKr (s : St) (args : List Operand) : Option Nat := match evs s args with
 | some (x :: _) => if isNils x.t then none else regOf x.t
 | _ => none
theorem opAppend_agree {ts : Array TypeId} {args : Array Operand} (h : ∀ x ∈ args.toList, Agree1 s s' x) (hps : ∀ x ∈ args.toList.take 1, ∀ p v, ev s x ≠ some ⟨.psl p, v⟩) {e : Eff R} (he : opAppend tb ts args id s = some e) :
  e.base = killO s (appKr s args.toList) ∧ e.ut = none ∧ opAppend tb ts args id s' = some (e.at (killO s' (appKr s args.toList))) ∧ ∀ r, appKr s args.toList = some r → ∃ x ∈ args.toList.take 1, evReg s x = some r := by
 unfold opAppend at he ⊢
 rw [evs_congr fun x hx => (h x hx).1]
 split at he
 ·rename_i t t' x y h1 h2
  obtain ⟨ox, oy, ha, hx, hy⟩ : ∃ ox oy, args.toList = [ox, oy] ∧ ev s ox = some x ∧ ev s oy = some y := by
   rcases hl : args.toList with _ | ⟨a, _ | ⟨b, _ | ⟨c, l⟩⟩⟩ <;> rw [hl] at h2 <;> simp only [evs] at h2
   ·cases h2
   ·split at h2
    ·rename_i u us hu hus
     cases h2; cases hus
    ·cases h2
   ·split at h2
    ·rename_i u us hu hus
     split at hus
     ·rename_i v vs hv hvs
      cases hus; cases h2
      cases hvs
      exact ⟨a, b, rfl, hu, hv⟩
     ·cases hus
    ·cases h2
   ·split at h2
    ·rename_i u us hu hus
     split at hus
     ·rename_i v vs hv hvs
      split at hvs
      ·cases hvs; cases hus; cases h2
      ·cases hvs
     ·cases hus
    ·cases h2
  have hax := h ox (by rw [ha]; simp)
  have hay := h oy (by rw [ha]; simp)
  have hK : appKr s args.toList = if isNils x.t then none else regOf x.t := by unfold appKr; rw [h2]
  rw [hK]
  split at he
  ·rename_i e1 e2 h3 h4
   try simp only [h3, h4]
   split at he
   ·rename_i h5
    rw [if_pos h5]
    rw [listTV_agree hay hy]
    split at he
    ·rename_i h6
     rw [if_pos h6, if_pos h6]
     split at he
     ·rename_i h7
      rw [if_pos h7]
      cases he
      exact ⟨rfl, rfl, rfl, fun r hr => by cases hr⟩
     ·rename_i h7
      rw [if_neg h7]
      split at he
      ·rename_i o h8
       try simp only [h8]
       split at he
       ·rename_i h9
        rw [if_pos h9]
        cases he
        exact ⟨rfl, rfl, rfl, fun r hr => by cases hr⟩
       ·cases he
      ·cases he
    ·rename_i h6
     rw [if_neg h6, if_neg h6]
     split at he
     ·rename_i ob sk h7
      obtain ⟨r, hr, hsk, ho⟩ := ownTV_agree hax hx (fun p v e => hps ox (by rw [ha]; simp) p v (by rw [hx, e])) h7
      subst hsk
      rw [hr]
      try simp only [ho]
      have hlast : ∀ q, some r = some q → ∃ x ∈ args.toList.take 1, evReg s x = some q := fun q hq => by
       cases hq
       exact ⟨ox, by rw [ha]; simp, by simp only [evReg, hx]; exact hr⟩
      split at he
      ·rename_i h8
       rw [if_pos h8]
       split at he
       ·rename_i h9
        rw [if_pos h9]
        cases he
        exact ⟨rfl, rfl, rfl, hlast⟩
       ·rename_i h9
        rw [if_neg h9]
        split at he
        ·rename_i o h10
         try simp only [h10]
         split at he
         ·rename_i h11
          rw [dif_pos h11]
          cases he
          exact ⟨rfl, rfl, rfl, hlast⟩
         ·rename_i h11
          rw [dif_neg h11]
          split at he
          ·rename_i h12
           rw [if_pos h12]
           cases he
           exact ⟨rfl, rfl, rfl, hlast⟩
          ·cases he
        ·cases he
      ·cases he
     ·cases he
   ·cases he
  ·cases he
 ·cases he
theorem opApp_agree {ts : Array TypeId} {args : Array Operand} (h : ∀ x ∈ args.toList, Agree1 s s' x) (hps : ∀ x ∈ args.toList.take 1, ∀ p v, ev s x ≠ some ⟨.psl p, v⟩) {e : Eff R} (he : opApp tb ts args id s = some e) (hut : e.ut = none) :
  e.base = killO s (appKr s args.toList) ∧ e.ut = none ∧ opApp tb ts args id s' = some (e.at (killO s' (appKr s args.toList))) ∧ ∀ r, appKr s args.toList = some r → ∃ x ∈ args.toList.take 1, evReg s x = some r := by
 unfold opApp at he ⊢
 split at he
 ·rename_i h0
  rw [if_pos h0]
  unfold opAppZ at he ⊢
  rw [evs_congr fun x hx => (h x hx).1]
  split at he
  ·rename_i t t' v n h1 h2
   have hK : appKr s args.toList = none := by unfold appKr; rw [h2]; rfl
   rw [hK]
   split at he
   ·rename_i e1 h3
    try simp only [h3]
    split at he
    ·rename_i h4
     rw [if_pos h4]
     cases he
     exact ⟨rfl, rfl, rfl, fun r hr => by cases hr⟩
    ·cases he
   ·cases he
  ·cases he
 ·rename_i h0
  rw [if_neg h0]
  exact opAppend_agree h hps he
def opKr (s : St) (o : Oper) : Option Nat := match o.op with
 | .call { callee := .builtin .append, args, .. } => appKr s args.toList
 | _ => none
theorem opD_app {Γ : Nat → List Ctr} {o : Oper} {base : Nat} {e : Eff R} (he : opD tb Γ o id s = some e) (hut : e.ut = none) (ha : appOwn s base o = true) (h : ∀ x ∈ o.op.operands, Agree1 s s' x) :
  e.base = killO s (opKr s o) ∧ e.ut = none ∧ opD tb Γ o id s' = some (e.at (killO s' (opKr s o))) ∧ ∀ r, opKr s o = some r → base ≤ r ∧ ∃ x ∈ o.op.operands, evReg s x = some r := by
 unfold appOwn at ha
 split at ha
 ·rename_i ags at' ho
  unfold opD at he ⊢
  unfold opKr
  rw [ho] at he h ⊢
  have hargs : ∀ x ∈ ags.toList, x ∈ (Op.call ⟨.builtin .append, ags, at'⟩).operands := fun x hx => by simp only [Op.operands, Call.operands]; simp at hx ⊢; exact hx
  obtain ⟨h1, h2, h3, h4⟩ := opApp_agree (fun x hx => h x (hargs x hx)) (fun x hx p v e => by
   have := List.all_eq_true.1 ha x hx
   rw [e] at this
   cases this) he hut
  refine ⟨h1, h2, h3, fun r hr => ?_⟩
  obtain ⟨x, hx, hxr⟩ := h4 r hr
  have := List.all_eq_true.1 ha x hx
  refine ⟨?_, x, hargs x (List.mem_of_mem_take hx), hxr⟩
  unfold evReg at hxr
  split at hxr
  ·rename_i tv htv
   rw [htv] at this
   obtain ⟨T, v⟩ := tv
   simp only at hxr
   cases T <;> simp only [regOf, reduceCtorEq, Option.some.injEq] at hxr <;> (subst hxr; exact of_decide_eq_true this)
  ·cases hxr
 ·cases ha
end Go.Vu
