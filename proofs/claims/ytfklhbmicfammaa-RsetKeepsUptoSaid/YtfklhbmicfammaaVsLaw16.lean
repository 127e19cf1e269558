/- Value semantics, part 22: two operations change places. -/
import Derived.Test.YtfklhbmicfammaaVsLaw15
set_option linter.unusedVariables false
namespace Go.Vs
open Go

variable {P : Program} {tb : Tab} {R : Type} {s s' : St} {id : Nat}

theorem argsD_congr : ∀ {ps : List PM} {xs : List TV}, (∀ x ∈ xs, ∀ r, regOf x.t = some r → s'.obj r = s.obj r) → argsD s' ps xs = argsD s ps xs
  | [], [], _ => rfl
  | [], _ :: _, _ => rfl
  | .ro t :: ps, [], _ => rfl
  | .mut t :: ps, [], _ => rfl
  | .own t :: ps, [], _ => rfl
  | .mutp t :: ps, [], _ => rfl
  | .ro t :: ps, x :: xs, h => by
    have ih := argsD_congr (ps := ps) (xs := xs) fun y hy => h y (by simp [hy])
    obtain ⟨T, v⟩ := x
    have hx := h ⟨T, v⟩ (by simp)
    unfold argsD
    rw [ih]
    cases T <;> first | rfl | (rename_i r; simp only [hx r rfl])
  | .mut t :: ps, x :: xs, h => by
    have ih := argsD_congr (ps := ps) (xs := xs) fun y hy => h y (by simp [hy])
    obtain ⟨T, v⟩ := x
    have hx := h ⟨T, v⟩ (by simp)
    unfold argsD
    rw [ih]
    cases T <;> first | rfl | (rename_i r; simp only [hx r rfl])
  | .mutp t :: ps, x :: xs, h => by
    have ih := argsD_congr (ps := ps) (xs := xs) fun y hy => h y (by simp [hy])
    obtain ⟨T, v⟩ := x
    have hx := h ⟨T, v⟩ (by simp)
    unfold argsD
    rw [ih]
    cases T <;> first | rfl | (rename_i r o; cases o <;> first | rfl | (simp only [show s'.obj r = s.obj r from hx r rfl]))
  | .own t :: ps, x :: xs, h => by
    have ih := argsD_congr (ps := ps) (xs := xs) fun y hy => h y (by simp [hy])
    obtain ⟨T, v⟩ := x
    have hx := h ⟨T, v⟩ (by simp)
    unfold argsD
    rw [ih]
    cases T <;> first | rfl | (rename_i r; simp only [hx r rfl])

theorem argsD_live : ∀ {ps : List PM} {xs : List TV} {v al mo}, argsD s ps xs = some (v, al, mo) → (∀ q ∈ al, ∃ ob, s.obj q = some ob) ∧ (∀ p ∈ mo, ∃ ob, s.obj p.1 = some ob)
  | [], [], v, al, mo, h => by simp only [argsD, Option.some.injEq, Prod.mk.injEq] at h; obtain ⟨_, rfl, rfl⟩ := h; simp
  | [], _ :: _, v, al, mo, h => by simp [argsD] at h
  | .ro t :: ps, [], v, al, mo, h => by simp [argsD] at h
  | .mut t :: ps, [], v, al, mo, h => by simp [argsD] at h
  | .own t :: ps, [], v, al, mo, h => by simp [argsD] at h
  | .mutp t :: ps, [], v, al, mo, h => by simp [argsD] at h
  | .ro t :: ps, x :: xs, v, al, mo, h => by
    unfold argsD at h
    split at h
    · cases h
    · rename_i hr
      obtain ⟨h1, h2⟩ := argsD_live hr
      split at h
      · split at h
        · cases h; exact ⟨h1, h2⟩
        · split at h
          · split at h
            · rename_i hob
              split at h
              · cases h
                refine ⟨fun q hq => ?_, h2⟩
                rcases List.mem_cons.1 hq with rfl | hq
                · exact ⟨_, hob⟩
                · exact h1 q hq
              · cases h
            · cases h
          · split at h
            · rename_i hob
              split at h
              · cases h
                refine ⟨fun q hq => ?_, h2⟩
                rcases List.mem_cons.1 hq with rfl | hq
                · exact ⟨_, hob⟩
                · exact h1 q hq
              · cases h
            · cases h
          · cases h
      · cases h
  | .mut t :: ps, x :: xs, v, al, mo, h => by
    unfold argsD at h
    split at h
    · cases h
    · rename_i hr
      obtain ⟨h1, h2⟩ := argsD_live hr
      split at h
      · split at h
        · rename_i hob
          split at h
          · cases h
            refine ⟨h1, fun q hq => ?_⟩
            rcases List.mem_cons.1 hq with rfl | hq
            · exact ⟨_, hob⟩
            · exact h2 q hq
          · cases h
        · cases h
      · cases h
  | .own t :: ps, x :: xs, v, al, mo, h => by
    unfold argsD at h
    split at h
    · cases h
    · rename_i hr
      obtain ⟨h1, h2⟩ := argsD_live hr
      split at h
      · split at h
        · rename_i hob
          split at h
          · cases h
            refine ⟨h1, fun q hq => ?_⟩
            rcases List.mem_cons.1 hq with rfl | hq
            · exact ⟨_, hob⟩
            · exact h2 q hq
          · cases h
        · cases h
      · cases h
  | .mutp t :: ps, x :: xs, v, al, mo, h => by
    unfold argsD at h
    split at h
    · cases h
    · rename_i hr
      obtain ⟨h1, h2⟩ := argsD_live hr
      split at h
      · split at h
        · rename_i hob
          split at h
          · cases h
            refine ⟨h1, fun q hq => ?_⟩
            rcases List.mem_cons.1 hq with rfl | hq
            · exact ⟨_, hob⟩
            · exact h2 q hq
          · cases h
        · cases h
      · cases h

theorem argsB_congr : ∀ {ps : List PM} {xs : List TV}, (∀ x ∈ xs, ∀ r, regOf x.t = some r → s'.obj r = s.obj r) → argsB s' ps xs = argsB s ps xs
  | [], [], _ => rfl
  | [], _ :: _, _ => rfl
  | .ro t :: ps, [], _ => rfl
  | .mut t :: ps, [], _ => rfl
  | .own t :: ps, [], _ => rfl
  | .mutp t :: ps, [], _ => rfl
  | .ro t :: ps, x :: xs, h => argsB_congr (ps := ps) (xs := xs) fun y hy => h y (by simp [hy])
  | .mut t :: ps, x :: xs, h => argsB_congr (ps := ps) (xs := xs) fun y hy => h y (by simp [hy])
  | .own t :: ps, x :: xs, h => argsB_congr (ps := ps) (xs := xs) fun y hy => h y (by simp [hy])
  | .mutp t :: ps, x :: xs, h => by
    have ih := argsB_congr (ps := ps) (xs := xs) fun y hy => h y (by simp [hy])
    obtain ⟨T, v⟩ := x
    have hx := h ⟨T, v⟩ (by simp)
    unfold argsB argB
    rw [ih]
    cases T <;> first | rfl | (rename_i r o; simp only [hx r rfl])

theorem live_set_le : ∀ (l : List ObS) (r : Nat), live (l.set r .dead) ≤ live l
  | [], _ => by simp
  | .live o :: l, 0 => by simp [live]
  | .dead :: l, 0 => by simp [live]
  | .fresh :: l, 0 => by simp [live]
  | .live o :: l, r + 1 => by simp only [List.set_cons_succ, live]; have := live_set_le l r; omega
  | .dead :: l, r + 1 => by simp only [List.set_cons_succ, live]; exact live_set_le l r
  | .fresh :: l, r + 1 => by simp only [List.set_cons_succ, live]; exact live_set_le l r

theorem live_set_lt : ∀ (l : List ObS) (r : Nat) (o : OB), l[r]? = some (.live o) → live (l.set r .dead) < live l
  | [], _, _, h => by simp at h
  | x :: l, 0, o, h => by simp only [List.getElem?_cons_zero, Option.some.injEq] at h; subst h; simp [live]
  | .live o' :: l, r + 1, o, h => by simp only [List.set_cons_succ, live]; have := live_set_lt l r o (by simpa using h); omega
  | .dead :: l, r + 1, o, h => by simp only [List.set_cons_succ, live]; exact live_set_lt l r o (by simpa using h)
  | .fresh :: l, r + 1, o, h => by simp only [List.set_cons_succ, live]; exact live_set_lt l r o (by simpa using h)

theorem live_kills : ∀ (l : List (Nat × Bool)) (s : St), live (kills s l).objs ≤ live s.objs
  | [], _ => Nat.le_refl _
  | (r, _) :: l, s => Nat.le_trans (live_kills l _) (live_set_le _ _)
theorem live_frzs : ∀ (l : List Nat) (s : St), live (frzs s l).objs ≤ live s.objs
  | [], _ => Nat.le_refl _
  | r :: l, s => by
    unfold frzs
    split
    · exact Nat.le_trans (live_frzs l _) (live_set_le _ _)
    · exact live_frzs l s

theorem call_still {ps : List PM} {xs : List TV} {v al mo} (h : argsD s ps xs = some (v, al, mo)) (b : Bool) (hl : live (if b then kills s mo else frzs (kills s mo) al).objs = live s.objs) :
    mo = [] ∧ (b = true ∨ al = []) := by
  obtain ⟨h1, h2⟩ := argsD_live h
  have hmo : mo = [] := by
    cases mo with
    | nil => rfl
    | cons p mo =>
      exfalso
      obtain ⟨r, x⟩ := p
      obtain ⟨ob, hob⟩ := h2 (r, x) (by simp)
      have e1 : live (kills s ((r, x) :: mo)).objs < live s.objs := Nat.lt_of_le_of_lt (live_kills mo _) (live_set_lt _ _ _ (St.obj_iff.1 hob))
      cases b
      · have := live_frzs al (kills s ((r, x) :: mo))
        simp only [Bool.false_eq_true, if_false] at hl; omega
      · simp only [if_true] at hl; omega
  subst hmo
  refine ⟨rfl, ?_⟩
  cases b
  · right
    cases al with
    | nil => rfl
    | cons r al =>
      exfalso
      obtain ⟨ob, hob⟩ := h1 r (by simp)
      simp only [Bool.false_eq_true, if_false, kills, frzs, hob] at hl
      have := live_frzs al (s.frz r ob)
      have h3 : live (s.frz r ob).objs < live s.objs := live_set_lt _ _ _ (St.obj_iff.1 hob)
      omega
  · left; rfl

theorem opCall_congr {Γ : Nat → List Ctr} {f : Nat} {xs : List TV} (hx : ∀ x ∈ xs, ∀ r, regOf x.t = some r → s'.obj r = s.obj r) {e : Eff R} (he : opCall Γ f xs id s = some e) (hl : live e.base.objs = live s.objs) :
    e.base = s ∧ opCall Γ f xs id s' = some (e.at s') := by
  have key : ∀ l : List Ctr, opCall.go xs id s l = some e → e.base = s ∧ opCall.go xs id s' l = some (e.at s') := by
    intro l
    induction l with
    | nil => intro h; simp [opCall.go] at h
    | cons c l ih =>
      intro h
      simp only [opCall.go] at h ⊢
      rw [argsD_congr hx, argsB_congr hx]
      split at h
      · rename_i ha; exact ih h
      · rename_i v al mo ha
        split at h
        · rename_i hc
          obtain rfl := Option.some.inj h
          obtain ⟨h1, h2⟩ := call_still ha _ hl
          subst h1
          refine ⟨?_, ?_⟩
          · rcases h2 with h2 | h2
            · simp only [h2, if_true, kills]
            · subst h2; simp only [kills, frzs, ite_self]
          · rw [if_pos hc]
            congr 1
            rcases h2 with h2 | h2
            · simp only [Eff.at, h2, if_true, kills]
            · subst h2; simp only [Eff.at, kills, frzs, ite_self]
        · cases h
  exact key _ he

theorem unchain_reg : ∀ (t : Ty) (v : t.den) (l : List TV), unchain t v = some l → ∀ x ∈ l, regOf x.t = none := by
  intro t
  induction t with
  | pair a b iha ihb =>
    intro v l h x hx
    simp only [unchain] at h
    split at h
    · rename_i hc
      split at h
      · rename_i l' hl
        cases h
        rcases List.mem_cons.1 hx with rfl | hx
        · simp only [Bool.and_eq_true] at hc
          have := hc.1.1
          cases a <;> first | rfl | (simp [Ty.pure] at this)
        · exact ihb _ _ hl x hx
      · cases h
    · cases h
  | unit => intro v l h x hx; simp only [unchain, Option.some.injEq] at h; subst h; simp at hx
  | _ => intro v l h; simp [unchain] at h

theorem evs_mem : ∀ {l : List Operand} {xs : List TV}, evs s l = some xs → ∀ x ∈ xs, ∃ o ∈ l, ev s o = some x
  | [], xs, h, x, hx => by simp only [evs, Option.some.injEq] at h; subst h; simp at hx
  | o :: l, xs, h, x, hx => by
    simp only [evs] at h
    split at h
    · rename_i y ys hy hys
      cases h
      rcases List.mem_cons.1 hx with rfl | hx
      · exact ⟨o, by simp, hy⟩
      · obtain ⟨o', h1, h2⟩ := evs_mem hys x hx
        exact ⟨o', by simp [h1], h2⟩
    · cases h

theorem opD_congr' {Γ : Nat → List Ctr} {o : Oper} {e : Eff R} (he : opD tb Γ o id s = some e) (hs : e.still o s = true) {s' : St} (h : ∀ x ∈ o.op.operands, Agree1 s s' x) :
    opD tb Γ o id s' = some (e.at s') := by
  simp only [Eff.still, Bool.and_eq_true, beq_iff_eq] at hs
  obtain ⟨⟨hs1, hs2⟩, hs3⟩ := hs
  unfold opD at he ⊢
  unfold isStill at hs1
  cases ho : o.op <;> rw [ho] at he hs1 h <;> simp only [reduceCtorEq] at he <;> simp only [Bool.false_eq_true] at hs1 ⊢
  case move x => exact opMove_congr (h x (by simp [Op.operands])) he
  case assign x => exact opMove_congr (h x (by simp [Op.operands])) he
  case pick c x y => exact opPick_congr (h c (by simp [Op.operands])) (h x (by simp [Op.operands])) (h y (by simp [Op.operands])) he
  case alloc t => exact opAlloc_congr he
  case box t x => exact (opBox_congr (h x (by simp [Op.operands])) hs1 he).2
  case build t parts => exact (opBuild_congr (fun x hx => (h x (by simpa [Op.operands] using hx)).1) hs1 he).2
  case buildSlice t len parts => exact (opBuildSlice_congr (fun x hx => (h x (by simpa [Op.operands] using hx)).1) hs1 he).2
  case load t x => exact opLoad_congr (h x (by simp [Op.operands])) he
  case nilCheck x => exact opNilCheck_congr (h x (by simp [Op.operands])) he
  case binOp op t x y t2 => exact opBin_congr (h x (by simp [Op.operands])) (h y (by simp [Op.operands])) he
  case unOp op t x => exact opUn_congr (h x (by simp [Op.operands])) he
  case convert t1 t2 x => exact opConv_congr (h x (by simp [Op.operands])) he
  case makeFunc fn first captured => exact (opMakeFunc_congr (fun x hx => (h x (by simp [Op.operands]; right; simpa using hx)).1) hs1 he).2
  case makeSlice t l c => exact opMakeSlice_congr (h l (by simp [Op.operands])) (h c (by simp [Op.operands])) he
  case slice t x lo hi mx => exact opSlice_congr (h x (by simp [Op.operands])) (fun y hy => (h y (by simp [Op.operands, hy])).1) (fun y hy => (h y (by simp [Op.operands, hy])).1) he
  case fieldAddr t x f => exact opFieldAddr_congr (h x (by simp [Op.operands])) he
  case field t x f => exact opField_congr (h x (by simp [Op.operands])) he
  case indexAddr t x i => exact opIndexAddr_congr (h x (by simp [Op.operands])) (h i (by simp [Op.operands])) he
  case index t x i => exact opIndex_congr (h x (by simp [Op.operands])) (h i (by simp [Op.operands])) he
  case extract x i => exact opExtract_congr (h x (by simp [Op.operands])) he
  case call c =>
    have hargs : ∀ x ∈ c.args.toList, Agree1 s s' x := fun x hx => h x (by simp only [Op.operands, Call.operands]; simp at hx ⊢; exact .inr hx)
    cases hc : c.callee with
    | builtin b =>
      rw [hc] at he
      cases b <;> simp only [reduceCtorEq] at he ⊢
      case append =>
        obtain ⟨cl, ag, at'⟩ := c
        simp only at hc
        subst hc
        simp at hs1
      case clear =>
        obtain ⟨cl, ag, at'⟩ := c
        simp only at hc
        subst hc
        simp at hs1
      case cap =>
        split at he
        · rename_i t x h1 h2
          exact opCapNil_congr (hargs x (by rw [h2]; simp)) he
        · cases he
      case len =>
        split at he
        · rename_i t x h1 h2
          exact opLen_congr (hargs x (by rw [h2]; simp)) he
        · cases he
      case max => exact opMax_congr (fun x hx => (hargs x hx).1) he
      case min => exact opMin_congr (fun x hx => (hargs x hx).1) he
    | invoke r mth => rw [hc] at he; cases he
    | value fv =>
      rw [hc] at he
      simp only at he ⊢
      have hfv : Agree1 s s' fv := h fv (by simp [Op.operands, Call.operands, hc])
      rw [hfv.1, evs_congr fun x hx => (hargs x hx).1]
      split at he
      · rename_i f q u xs hf hxs
        split at he
        · rename_i ys hys
          refine (opCall_congr (fun x hx r hr => ?_) he hs3).2
          rcases List.mem_append.1 hx with hx | hx
          · obtain ⟨y, hy, hy2⟩ := evs_mem hxs x hx
            exact (hargs y hy).2 x hy2 r hr
          · rw [unchain_reg _ _ _ hys x hx] at hr; cases hr
        · cases he
      · cases he

/- - what an operation does hangs on what its operands tell -/
theorem opD_congr {Γ : Nat → List Ctr} {o : Oper} (h : ∀ x ∈ o.op.operands, Agree1 s s' x) {e : Eff R} (he : opD tb Γ o id s = some e) (hs : e.still o s = true) :
    e.base = s ∧ opD tb Γ o id s' = some (e.at s') := by
  refine ⟨?_, opD_congr' he hs h⟩
  have := opD_congr' he hs (s' := s) fun x _ => ⟨rfl, fun _ _ _ _ => rfl⟩
  rw [he] at this
  have := Option.some.inj this
  rw [this]; rfl

/- - what is given up -/
def killO (s : St) : Option Nat → St
  | none => s
  | some r => s.setObj r .dead

theorem listTV_agree {x : Operand} {y : TV} (h : Agree1 s s' x) (hy : ev s x = some y) : listTV s' y = listTV s y := by
  obtain ⟨T, v⟩ := y
  have hx := h.2 ⟨T, v⟩ hy
  cases T <;> first | rfl | (rename_i r; simp only [listTV, hx r rfl])
theorem ownTV_agree {x : Operand} {y : TV} {ob : OB} {sk : St} (h : Agree1 s s' x) (hy : ev s x = some y) (ho : ownTV s y = some (ob, sk)) :
    ∃ r, regOf y.t = some r ∧ sk = s.setObj r .dead ∧ ownTV s' y = some (ob, s'.setObj r .dead) := by
  obtain ⟨T, v⟩ := y
  have hx := h.2 ⟨T, v⟩ hy
  cases T <;> simp only [ownTV, reduceCtorEq] at ho
  · rename_i r
    split at ho
    · rename_i ob' hob
      cases ho
      exact ⟨r, rfl, rfl, by simp only [ownTV, hx r rfl, hob]⟩
    · cases ho
  · rename_i r
    split at ho
    · rename_i ob' hob
      cases ho
      exact ⟨r, rfl, rfl, by simp only [ownTV, hx r rfl, hob]⟩
    · cases ho

/- - the region that an append gives up -/
def appKr (s : St) (args : List Operand) : Option Nat := match evs s args with
  | some (x :: _) => if isNils x.t then none else regOf x.t
  | _ => none

theorem opAppend_agree {ts : Array TypeId} {args : Array Operand} (h : ∀ x ∈ args.toList, Agree1 s s' x) {e : Eff R} (he : opAppend tb ts args id s = some e) :
    e.base = killO s (appKr s args.toList) ∧ e.ut = none ∧ opAppend tb ts args id s' = some (e.at (killO s' (appKr s args.toList))) ∧ ∀ r, appKr s args.toList = some r → ∃ x ∈ args.toList.take 1, evReg s x = some r := by
  unfold opAppend at he ⊢
  rw [evs_congr fun x hx => (h x hx).1]
  split at he
  · rename_i t t' x y h1 h2
    obtain ⟨ox, oy, ha, hx, hy⟩ : ∃ ox oy, args.toList = [ox, oy] ∧ ev s ox = some x ∧ ev s oy = some y := by
      rcases hl : args.toList with _ | ⟨a, _ | ⟨b, _ | ⟨c, l⟩⟩⟩ <;> rw [hl] at h2 <;> simp only [evs] at h2
      · cases h2
      · split at h2
        · rename_i u us hu hus
          cases h2; cases hus
        · cases h2
      · split at h2
        · rename_i u us hu hus
          split at hus
          · rename_i v vs hv hvs
            cases hus; cases h2
            cases hvs
            exact ⟨a, b, rfl, hu, hv⟩
          · cases hus
        · cases h2
      · split at h2
        · rename_i u us hu hus
          split at hus
          · rename_i v vs hv hvs
            split at hvs
            · cases hvs; cases hus; cases h2
            · cases hvs
          · cases hus
        · cases h2
    have hax := h ox (by rw [ha]; simp)
    have hay := h oy (by rw [ha]; simp)
    have hK : appKr s args.toList = if isNils x.t then none else regOf x.t := by unfold appKr; rw [h2]
    rw [hK]
    split at he
    · rename_i e1 e2 h3 h4
      try simp only [h3, h4]
      split at he
      · rename_i h5
        rw [if_pos h5]
        rw [listTV_agree hay hy]
        split at he
        · rename_i h6
          rw [if_pos h6, if_pos h6]
          split at he
          · rename_i h7
            rw [if_pos h7]
            cases he
            exact ⟨rfl, rfl, rfl, fun r hr => by cases hr⟩
          · rename_i h7
            rw [if_neg h7]
            split at he
            · rename_i o h8
              try simp only [h8]
              split at he
              · rename_i h9
                rw [if_pos h9]
                cases he
                exact ⟨rfl, rfl, rfl, fun r hr => by cases hr⟩
              · cases he
            · cases he
        · rename_i h6
          rw [if_neg h6, if_neg h6]
          split at he
          · rename_i ob sk h7
            obtain ⟨r, hr, hsk, ho⟩ := ownTV_agree hax hx h7
            subst hsk
            rw [hr]
            try simp only [ho]
            have hlast : ∀ q, some r = some q → ∃ x ∈ args.toList.take 1, evReg s x = some q := fun q hq => by
              cases hq
              exact ⟨ox, by rw [ha]; simp, by simp only [evReg, hx]; exact hr⟩
            split at he
            · rename_i h8
              rw [if_pos h8]
              split at he
              · rename_i h9
                rw [if_pos h9]
                cases he
                exact ⟨rfl, rfl, rfl, hlast⟩
              · rename_i h9
                rw [if_neg h9]
                split at he
                · rename_i o h10
                  try simp only [h10]
                  split at he
                  · rename_i h11
                    rw [dif_pos h11]
                    cases he
                    exact ⟨rfl, rfl, rfl, hlast⟩
                  · cases he
                · cases he
            · cases he
          · cases he
      · cases he
    · cases he
  · cases he

theorem isPart_agree {l : List Operand} (h : ∀ x ∈ l, Agree1 s s' x) : isPart s' l = isPart s l := by
  cases l with
  | nil => rfl
  | cons x l => simp only [isPart, (h x (by simp)).1]

theorem opApp_agree {ts : Array TypeId} {args : Array Operand} (h : ∀ x ∈ args.toList, Agree1 s s' x) {e : Eff R} (he : opApp tb ts args id s = some e) (hut : e.ut = none) :
    e.base = killO s (appKr s args.toList) ∧ e.ut = none ∧ opApp tb ts args id s' = some (e.at (killO s' (appKr s args.toList))) ∧ ∀ r, appKr s args.toList = some r → ∃ x ∈ args.toList.take 1, evReg s x = some r := by
  unfold opApp at he ⊢
  split at he
  · rename_i h0
    rw [if_pos h0]
    unfold opAppZ at he ⊢
    rw [evs_congr fun x hx => (h x hx).1]
    split at he
    · rename_i t t' v n h1 h2
      have hK : appKr s args.toList = none := by unfold appKr; rw [h2]; rfl
      rw [hK]
      split at he
      · rename_i e1 h3
        try simp only [h3]
        split at he
        · rename_i h4
          rw [if_pos h4]
          cases he
          exact ⟨rfl, rfl, rfl, fun r hr => by cases hr⟩
        · cases he
      · cases he
    · cases he
  · rename_i h0
    rw [if_neg h0, isPart_agree h]
    split at he
    · exfalso
      unfold opAppR at he
      split at he
      · split at he
        · split at he
          · split at he
            · split at he
              · cases he; cases hut
              · cases he
            · cases he
          · cases he
        · cases he
      · cases he
    · rename_i h1
      rw [if_neg h1]
      exact opAppend_agree h he

def opKr (s : St) (o : Oper) : Option Nat := match o.op with
  | .call { callee := .builtin .append, args, .. } => appKr s args.toList
  | _ => none
/- - an append of what was made here, seen from a state that tells its operands the same -/
theorem opD_app {Γ : Nat → List Ctr} {o : Oper} {base : Nat} {e : Eff R} (he : opD tb Γ o id s = some e) (hut : e.ut = none) (ha : appOwn s base o = true) (h : ∀ x ∈ o.op.operands, Agree1 s s' x) :
    e.base = killO s (opKr s o) ∧ e.ut = none ∧ opD tb Γ o id s' = some (e.at (killO s' (opKr s o))) ∧ ∀ r, opKr s o = some r → base ≤ r ∧ ∃ x ∈ o.op.operands, evReg s x = some r := by
  unfold appOwn at ha
  split at ha
  · rename_i ags at' ho
    unfold opD at he ⊢
    unfold opKr
    rw [ho] at he h ⊢
    have hargs : ∀ x ∈ ags.toList, x ∈ (Op.call ⟨.builtin .append, ags, at'⟩).operands := fun x hx => by simp only [Op.operands, Call.operands]; simp at hx ⊢; exact hx
    obtain ⟨h1, h2, h3, h4⟩ := opApp_agree (fun x hx => h x (hargs x hx)) he hut
    refine ⟨h1, h2, h3, fun r hr => ?_⟩
    obtain ⟨x, hx, hxr⟩ := h4 r hr
    have := List.all_eq_true.1 ha x hx
    rw [hxr] at this
    exact ⟨of_decide_eq_true this, x, hargs x (List.mem_of_mem_take hx), hxr⟩
  · cases ha

end Go.Vs
