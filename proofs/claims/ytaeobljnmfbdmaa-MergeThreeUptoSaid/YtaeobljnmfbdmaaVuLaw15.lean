/- Value semantics, part 21: operations that may be carried out in any order. -/
import Derived.Test.YtaeobljnmfbdmaaVuLaw14
import Derived.StillTail
set_option linter.unusedVariables false
namespace Go.Vu
open Go
variable {P : Program} {tb : Tab} {R : Type} {s s' : St} {id : Nat}
def Agree1 (s s' : St) (x : Operand) : Prop := ev s' x = ev s x ∧ (∀ tv, ev s x = some tv → ∀ r, r ∈ regsD 3 s tv.t → s'.cont r = s.cont r) ∧ s'.pls = s.pls
theorem Agree1.pol {x : Operand} (h : Agree1 s s' x) (p : Nat) : Go.Vu.pol s'.pls p = Go.Vu.pol s.pls p := by rw [h.2.2]
theorem regsD_mem {n : Nat} {t : Ty} {r : Nat} (h : r ∈ t.regs) : r ∈ regsD n s t := by
 cases n with
 | zero => exact h
 | succ n => simp only [regsD]; exact List.mem_append_left _ h
theorem obj_congr {r : Nat} (h : s'.cont r = s.cont r) : s'.obj r = s.obj r := by
 cases h1 : s'.obj r with
 | none =>
  cases h2 : s.obj r with
  | none => rfl
  | some o => rw [St.obj_cont, ← h, ← St.obj_cont, h1] at h2; cases h2
 | some o => rw [St.obj_cont, h, ← St.obj_cont] at h1; exact h1.symm
theorem itc_congr {r : Nat} (h : s'.cont r = s.cont r) : s'.itc r = s.itc r := by
 cases h1 : s'.itc r with
 | none =>
  cases h2 : s.itc r with
  | none => rfl
  | some o => rw [St.itc_cont, ← h, ← St.itc_cont, h1] at h2; cases h2
 | some o => rw [St.itc_cont, h, ← St.itc_cont] at h1; exact h1.symm
theorem bx_congr {r : Nat} (h : s'.cont r = s.cont r) : s'.bx r = s.bx r := by
 cases h1 : s'.bx r with
 | none =>
  cases h2 : s.bx r with
  | none => rfl
  | some o => rw [St.bx_cont, ← h, ← St.bx_cont, h1] at h2; cases h2
 | some o => rw [St.bx_cont, h, ← St.bx_cont] at h1; exact h1.symm
theorem Agree1.obj {x : Operand} (h : Agree1 s s' x) {tv : TV} (hx : ev s x = some tv) {r : Nat} (hr : r ∈ tv.t.regs) : s'.obj r = s.obj r := obj_congr (h.2.1 tv hx r (regsD_mem hr))
theorem Agree1.bx {x : Operand} (h : Agree1 s s' x) {tv : TV} (hx : ev s x = some tv) {r : Nat} (hr : r ∈ tv.t.regs) : s'.bx r = s.bx r := bx_congr (h.2.1 tv hx r (regsD_mem hr))
def Eff.at (e : Eff R) (s : St) : Eff R := ⟨e.T, e.nt, e.ut, e.ur, s, e.kf, e.k⟩
theorem bnd_congr {lo hi : Option Operand} {n : Int} (h1 : ∀ x, lo = some x → ev s' x = ev s x) (h2 : ∀ x, hi = some x → ev s' x = ev s x) : bnd s' lo hi n = bnd s lo hi n := by
 unfold bnd
 cases lo with
 | none => cases hi with
  | none => rfl
  | some y => simp only [h2 y rfl]
 | some x => cases hi with
  | none => simp only [h1 x rfl]
  | some y => simp only [h1 x rfl, h2 y rfl]
theorem opMove_congr {x : Operand} (h : Agree1 s s' x) {e : Eff R} (he : opMove x s = some e) : opMove x s' = some (e.at s') := by
 unfold opMove at he ⊢
 rw [h.1]
 split at he
 ·cases he; rfl
 ·cases he
theorem opPick_congr {c x y : Operand} (h : Agree1 s s' c) (hx : Agree1 s s' x) (hy : Agree1 s s' y) {e : Eff R} (he : opPick c x y s = some e) : opPick c x y s' = some (e.at s') := by
 unfold opPick at he ⊢
 rw [h.1, hx.1, hy.1]
 split at he
 ·split at he
  ·split at he
   ·cases he; first | rfl | (simp only [*]; rfl)
   ·cases he
  ·cases he; first | rfl | (simp only [*]; rfl)
  ·cases he; first | rfl | (simp only [*]; rfl)
  ·cases he
 ·cases he
theorem opAlloc_congr {t : Nat} {e : Eff R} (he : opAlloc tb t id s = some e) : opAlloc tb t id s' = some (e.at s') := by
 unfold opAlloc at he ⊢
 split at he
 ·split at he
  ·cases he; first | rfl | (simp only [*]; rfl)
  ·cases he
 ·cases he
theorem opLoad_congr {t : Nat} {x : Operand} (h : Agree1 s s' x) {e : Eff R} (he : opLoad tb t x s = some e) : opLoad tb t x s' = some (e.at s') := by
 unfold opLoad at he ⊢
 rw [h.1]
 split at he
 ·rename_i hx
  rw [← h.obj hx (by simp [Ty.regs])] at he
  split at he
  ·split at he
   ·cases he; first | rfl | (simp only [*]; rfl)
   ·cases he
  ·cases he
 ·split at he
  ·split at he
   ·cases he; first | rfl | (simp only [*]; rfl)
   ·cases he
  ·cases he
 ·rename_i hx
  rw [← h.bx hx (by simp [Ty.regs])] at he
  split at he
  ·split at he
   ·cases he; first | rfl | (simp only [*]; rfl)
   ·cases he
  ·cases he
 ·rw [← h.pol] at he
  split at he
  ·split at he
   ·cases he; first | rfl | (simp only [*]; rfl)
   ·cases he
  ·cases he
 ·cases he
theorem opNilCheck_congr {x : Operand} (h : Agree1 s s' x) {e : Eff R} (he : opNilCheck x s = some e) : opNilCheck x s' = some (e.at s') := by
 unfold opNilCheck at he ⊢
 rw [h.1]
 split at he
 all_goals first | (cases he; done) | (cases he; first | rfl | (simp only [*]; rfl))
theorem opFieldAddr_congr {t f : Nat} {x : Operand} (h : Agree1 s s' x) {e : Eff R} (he : opFieldAddr tb t x f s = some e) : opFieldAddr tb t x f s' = some (e.at s') := by
 unfold opFieldAddr at he ⊢
 rw [h.1]
 split at he
 all_goals first | (cases he; done) | (cases he; first | rfl | (simp only [*]; rfl))
theorem opField_congr {t f : Nat} {x : Operand} (h : Agree1 s s' x) {e : Eff R} (he : opField tb t x f s = some e) : opField tb t x f s' = some (e.at s') := by
 unfold opField at he ⊢
 rw [h.1]
 split at he
 ·split at he
  ·split at he
   ·split at he
    ·cases he; first | rfl | (simp only [*]; rfl)
    ·cases he
   ·cases he
  ·cases he
 ·cases he
theorem opIndexAddrS_congr {t : Nat} {x ix : Operand} (h : Agree1 s s' x) (hi : Agree1 s s' ix) {e : Eff R} (he : opIndexAddrS tb t x ix s = some e) : opIndexAddrS tb t x ix s' = some (e.at s') := by
 unfold opIndexAddrS at he ⊢
 rw [h.1, hi.1]
 split at he
 ·split at he
  ·cases he; first | rfl | (simp only [*]; rfl)
  ·cases he
 ·rename_i hx _
  rw [← h.obj hx (by simp [Ty.regs])] at he
  split at he
  ·split at he
   ·cases he; first | rfl | (simp only [*]; rfl)
   ·cases he
  ·cases he
 ·rename_i hx _
  rw [← h.obj hx (by simp [Ty.regs])] at he
  split at he
  ·split at he
   ·cases he; first | rfl | (simp only [*]; rfl)
   ·cases he
  ·cases he
 ·rw [← h.pol] at he
  split at he
  ·split at he
   ·cases he; first | rfl | (simp only [*]; rfl)
   ·cases he
  ·cases he
 ·cases he
theorem opIndexAddr_congr {t : Nat} {x ix : Operand} (h : Agree1 s s' x) (hi : Agree1 s s' ix) {e : Eff R} (he : opIndexAddr tb t x ix s = some e) : opIndexAddr tb t x ix s' = some (e.at s') := by
 unfold opIndexAddr at he ⊢
 split at he
 ·unfold opIndexArr at he ⊢
  rw [h.1]
  split at he
  ·split at he
   ·rename_i hc; rw [if_pos hc]; cases he; rfl
   ·cases he
  ·split at he
   ·rename_i hc; rw [if_pos hc]; cases he; rfl
   ·cases he
  ·cases he
 ·exact opIndexAddrS_congr h hi he
theorem opIndex_congr {t : Nat} {x ix : Operand} (h : Agree1 s s' x) (hi : Agree1 s s' ix) {e : Eff R} (he : opIndex tb t x ix s = some e) : opIndex tb t x ix s' = some (e.at s') := by
 unfold opIndex at he ⊢
 rw [h.1, hi.1]
 split at he
 ·split at he
  ·cases he; first | rfl | (simp only [*]; rfl)
  ·cases he
 ·split at he
  ·split at he
   ·split at he
    ·split at he
     ·rename_i hc; rw [if_pos hc]; cases he; rfl
     ·cases he
    ·cases he
   ·cases he
  ·cases he
 ·cases he
theorem opSlice_congr {t : Nat} {x : Operand} {lo hi mx : Option Operand} (h : Agree1 s s' x) (h1 : ∀ x, lo = some x → ev s' x = ev s x) (h2 : ∀ x, hi = some x → ev s' x = ev s x) {e : Eff R}
  (he : opSlice tb t x lo hi mx s = some e) : opSlice tb t x lo hi mx s' = some (e.at s') := by
 have hb := fun n => bnd_congr (n := n) h1 h2
 unfold opSlice at he ⊢
 rw [h.1]
 simp only [hb]
 split at he
 ·cases he
 ·split at he
  ·split at he
   ·cases he; first | rfl | (simp only [*]; rfl)
   ·cases he
  ·split at he
   ·split at he
    ·split at he
     ·cases he; first | rfl | (simp only [*]; rfl)
     ·cases he
    ·cases he
   ·cases he
  ·rename_i hx
   rw [← h.obj hx (by simp [Ty.regs])] at he
   split at he
   ·split at he
    ·split at he
     ·split at he
      ·cases he; first | rfl | (simp only [*]; rfl)
      ·cases he
     ·cases he
    ·cases he
   ·cases he
  ·rename_i hx
   rw [← h.obj hx (by simp [Ty.regs])] at he
   split at he
   ·split at he
    ·split at he
     ·split at he
      ·cases he; first | rfl | (simp only [*]; rfl)
      ·cases he
     ·cases he
    ·cases he
   ·cases he
  ·rw [← h.pol] at he
   split at he
   ·split at he
    ·split at he
     ·split at he
      ·cases he; first | rfl | (simp only [*]; rfl)
      ·cases he
     ·cases he
    ·cases he
   ·cases he
  ·split at he
   ·split at he
    ·cases he; first | rfl | (simp only [*]; rfl)
    ·cases he
   ·cases he
  ·cases he
theorem opMakeSlice_congr {t : Nat} {x y : Operand} (h : Agree1 s s' x) (hi : Agree1 s s' y) {e : Eff R} (he : opMakeSlice tb t x y id s = some e) : opMakeSlice tb t x y id s' = some (e.at s') := by
 unfold opMakeSlice at he ⊢
 rw [h.1, hi.1]
 split at he
 ·split at he
  ·rename_i hc
   simp only [hc, if_true]
   split at he
   ·rename_i h2
    rw [if_pos h2]
    cases he; rfl
   ·rename_i h2
    rw [if_neg h2]
    cases he; rfl
  ·cases he
 ·cases he
theorem binI_congr {op : BinOp} {k : IntKind} {a b : Int} {e : Eff R} (he : binI op k a b s = some e) : binI op k a b s' = some (e.at s') := by
 unfold binI at he ⊢
 cases op <;> simp only [Option.some.injEq, reduceCtorEq] at he ⊢ <;> (subst he; rfl)
theorem shI_congr {op : BinOp} {k : IntKind} {a b : Int} {e : Eff R} (he : shI op k a b s = some e) : shI op k a b s' = some (e.at s') := by
 unfold shI at he ⊢
 cases op <;> simp only [Option.some.injEq, reduceCtorEq] at he ⊢ <;> (subst he; rfl)
theorem binS_congr {op : BinOp} {a b : List UInt8} {e : Eff R} (he : binS op a b s = some e) : binS op a b s' = some (e.at s') := by
 unfold binS at he ⊢
 cases op <;> simp only [Option.some.injEq, reduceCtorEq] at he ⊢ <;> (subst he; rfl)
theorem opBin_congr {op : BinOp} {t : Nat} {x y : Operand} (h : Agree1 s s' x) (hi : Agree1 s s' y) {e : Eff R} (he : opBin tb op t x y s = some e) : opBin tb op t x y s' = some (e.at s') := by
 unfold opBin at he ⊢
 rw [h.1, hi.1]
 split at he
 ·split at he
  ·rename_i hc; rw [if_pos hc]; exact shI_congr he
  ·rename_i hc; rw [if_neg hc]
   split at he
   ·rename_i hk; rw [if_pos hk]; exact binI_congr he
   ·cases he
 ·exact binS_congr he
 ·split at he
  ·split at he
   ·cases he; first | rfl | (simp only [*]; rfl)
   ·cases he; first | rfl | (simp only [*]; rfl)
   ·cases he
  ·cases he
 ·split at he
  ·rename_i hT
   rw [dif_pos hT]
   split at he
   ·rename_i hc
    rw [if_pos hc]
    split at he
    ·cases he; rfl
    ·cases he; rfl
    ·cases he
   ·cases he
  ·cases he
 ·split at he
  ·split at he
   ·cases he; rfl
   ·cases he; rfl
   ·cases he
  ·cases he
 ·split at he
  ·split at he
   ·cases he; rfl
   ·cases he; rfl
   ·cases he
  ·cases he
 ·cases he
theorem opUn_congr {op : UnOp} {x : Operand} (h : Agree1 s s' x) {e : Eff R} (he : opUn op x s = some e) : opUn op x s' = some (e.at s') := by
 unfold opUn at he ⊢
 rw [h.1]
 split at he
 all_goals first | (cases he; done) | (cases he; first | rfl | (simp only [*]; rfl))
theorem listTV_congr {x : TV} (h : ∀ r, r ∈ x.t.regs → s'.cont r = s.cont r) : listTV s' x = listTV s x := by
 obtain ⟨t, v⟩ := x
 cases t <;> first | rfl | (rename_i r; simp only [listTV, obj_congr (h r (by simp [Ty.regs]))])
theorem opConv_congr {a b : Nat} {x : Operand} (h : Agree1 s s' x) {e : Eff R} (he : opConv tb a b x id s = some e) : opConv tb a b x id s' = some (e.at s') := by
 unfold opConv at he ⊢
 rw [h.1]
 split at he
 ·split at he
  ·cases he; first | rfl | (simp only [*]; rfl)
  ·cases he
 ·split at he
  ·cases he; first | rfl | (simp only [*]; rfl)
  ·split at he
   ·split at he
    ·rename_i hk
     rw [if_pos hk]
     cases he; rfl
    ·cases he
   ·cases he
  ·cases he
 ·rename_i y _ _ h1 h2 hy
  split at he
  ·unfold bytesTV at he ⊢
   rw [listTV_congr fun r hr => h.2.1 _ hy r (regsD_mem hr)]
   split at he
   ·rename_i hl
    try simp only [hl]
    split at he
    ·rename_i hk
     rw [if_pos hk]
     cases he; rfl
    ·cases he
   ·cases he
  ·cases he
 ·cases he
theorem extract_go_congr : ∀ (t : Ty) (v : t.den) (i : Nat) {e : Eff R}, opExtract.go s t v i = some e → opExtract.go s' t v i = some (e.at s') := by
 intro t
 induction t with
 | pair a b iha ihb =>
  intro v i e he
  cases i with
  | zero => simp only [opExtract.go, Option.some.injEq] at he ⊢; subst he; rfl
  | succ i => simp only [opExtract.go] at he ⊢; exact ihb _ _ he
 | nxt a b _ _ =>
  intro v i e he
  obtain _ | _ | _ | i := i
  ·have he : some (Eff.one s .bool (.ret v.isSome)) = some e := he
   cases he; rfl
  ·have he : some (Eff.one s a (.look (v.map (·.1)))) = some e := he
   cases he; rfl
  ·have he : some (Eff.one s b (.look (v.map (·.2)))) = some e := he
   cases he; rfl
  ·simp [opExtract.go] at he
 | _ => intro v i e he; simp [opExtract.go] at he
theorem opExtract_congr {x : Operand} {i : Nat} (h : Agree1 s s' x) {e : Eff R} (he : opExtract x i s = some e) : opExtract x i s' = some (e.at s') := by
 unfold opExtract at he ⊢
 rw [h.1]
 split at he
 ·exact extract_go_congr _ _ _ he
 ·cases he
theorem lenTV_congr {x : TV} (h : ∀ r, r ∈ x.t.regs → s'.cont r = s.cont r) : lenTV s' x = lenTV s x := by
 obtain ⟨t, v⟩ := x
 cases t <;> try rfl
 rename_i r
 simp only [lenTV, obj_congr (h r (by simp [Ty.regs]))]
theorem opLen_congr {t : Nat} {x : Operand} (h : Agree1 s s' x) {e : Eff R} (he : opLen tb t x s = some e) : opLen tb t x s' = some (e.at s') := by
 unfold opLen at he ⊢
 rw [h.1]
 split at he
 ·rename_i hx
  have hl := lenTV_congr fun r hr => h.2.1 _ hx r (regsD_mem hr)
  rw [← hl] at he
  split at he
  ·split at he
   ·cases he; first | rfl | (simp only [*]; rfl)
   ·cases he
  ·split at he
   ·cases he; first | rfl | (simp only [*]; rfl)
   ·cases he
  ·cases he
 ·cases he
theorem opCapNil_congr {t : Nat} {x : Operand} (h : Agree1 s s' x) {e : Eff R} (he : opCapNil tb t x s = some e) : opCapNil tb t x s' = some (e.at s') := by
 unfold opCapNil at he ⊢
 rw [h.1]
 split at he
 ·split at he
  ·cases he; first | rfl | (simp only [*]; rfl)
  ·cases he
 ·cases he
theorem evs_congr : ∀ {l : List Operand}, (∀ x ∈ l, ev s' x = ev s x) → evs s' l = evs s l
 | [], _ => rfl
 | x :: l, h => by simp only [evs, h x (by simp), evs_congr (l := l) fun y hy => h y (by simp [hy])]
theorem opMax_congr {args : Array Operand} (h : ∀ x ∈ args.toList, ev s' x = ev s x) {e : Eff R} (he : opMax args s = some e) : opMax args s' = some (e.at s') := by
 unfold opMax at he ⊢
 rw [evs_congr h]
 split at he
 ·split at he
  ·cases he; first | rfl | (simp only [*]; rfl)
  ·cases he
 ·cases he
theorem opMin_congr {args : Array Operand} (h : ∀ x ∈ args.toList, ev s' x = ev s x) {e : Eff R} (he : opMin args s = some e) : opMin args s' = some (e.at s') := by
 unfold opMin at he ⊢
 rw [evs_congr h]
 split at he
 ·split at he
  ·cases he; first | rfl | (simp only [*]; rfl)
  ·cases he
 ·cases he
theorem toPure_pure {x : TV} (h : x.t.pure = true) : toPure s x = some (x, s) := by unfold toPure toPureN; rw [if_pos h]
theorem toHold_hold {x : TV} (h : x.t.hold = true) : toHold s x = some (x, s) := by unfold toHold toHoldN; rw [if_pos h]
theorem opRange_congr {t : Nat} {x : Operand} (h : Agree1 s s' x) {e : Eff R} (he : opRange tb t x id s = some e) (hk : e.kf = true) : opRange tb t x id s' = some (e.at s') := by
 unfold opRange at he ⊢
 rw [h.1]
 split at he
 ·split at he
  ·cases he; rfl
  ·cases he
 ·split at he
  ·split at he
   ·cases he; cases hk
   ·cases he
  ·cases he
 ·cases he
theorem opLookup_congr {t : Nat} {x ix : Operand} {b : Bool} (h : Agree1 s s' x) (hi : Agree1 s s' ix) {e : Eff R} (he : opLookup tb t x ix b s = some e) : opLookup tb t x ix b s' = some (e.at s') := by
 unfold opLookup at he ⊢
 rw [h.1, hi.1]
 split at he
 ·rename_i k ei r u k' n hm hx hix
  simp only [h.2.1 _ hx r (regsD_mem (by simp [Ty.regs]))]
  split at he
  ·split at he
   ·split at he
    ·rename_i hc
     cases he
     simp only [*]
     rfl
    ·cases he
   ·cases he
  ·cases he
 ·split at he
  ·split at he
   ·rename_i hc
    cases he
    simp only [*]
    rfl
   ·cases he
  ·cases he
 ·cases he
theorem opBox_congr {x : Operand} (h : Agree1 s s' x) {e : Eff R} (he : opBox x id s = some e) : e.base = s ∧ opBox x id s' = some (e.at s') := by
 unfold opBox at he ⊢
 rw [h.1]
 split at he
 ·split at he
  ·rename_i hc
   cases he
   exact ⟨rfl, by rw [if_pos hc]; rfl⟩
  ·cases he
 ·cases he
theorem chainTV_pure : ∀ {l : List Operand} {q : TV} {s1 : St}, pureAll s l = true → (∀ x ∈ l, ev s' x = ev s x) → chainTV s l = some (q, s1) → s1 = s ∧ chainTV s' l = some (q, s')
 | [], q, s1, _, _, h => by simp only [chainTV, Option.some.injEq, Prod.mk.injEq] at h; exact ⟨h.2.symm, by simp only [chainTV, h.1]⟩
 | x :: l, q, s1, hp, he, h => by
  simp only [pureAll, List.all_cons, Bool.and_eq_true] at hp
  simp only [chainTV] at h ⊢
  rw [he x (by simp)]
  split at h
  ·rename_i tv hx
   have hpu : tv.t.pure = true := by have := hp.1; rw [hx] at this; exact this
   rw [toPure_pure hpu] at h
   simp only at h
   split at h
   ·cases h
   ·rename_i hst
    split at h
    ·rename_i q' s'' hq
     obtain ⟨h1, h2⟩ := chainTV_pure hp.2 (fun y hy => he y (by simp [hy])) hq
     cases h
     refine ⟨h1, ?_⟩
     simp only [toPure_pure hpu, hst, h2]
     rfl
    ·cases h
  ·cases h
theorem opMakeFunc_congr {fn : Fn} {first captured : Array Operand} (h : ∀ x ∈ captured.toList, ev s' x = ev s x) (hp : pureAll s captured.toList = true) {e : Eff R} (he : opMakeFunc fn first captured s = some e) :
  e.base = s ∧ opMakeFunc fn first captured s' = some (e.at s') := by
 unfold opMakeFunc at he ⊢
 split at he
 ·split at he
  ·rename_i hq
   obtain ⟨h1, h2⟩ := chainTV_pure hp h hq
   cases he
   refine ⟨h1, ?_⟩
   simp only [*]; rfl
  ·cases he
 ·cases he
theorem fieldTVs_congr {z : TV} : ∀ {fs : List (Nat × Nat)} {k at' : Nat} {parts : List (Nat × Operand)}, (∀ x ∈ parts.map (·.2), ev s' x = ev s x) →
  fieldTVs tb z fs k at' parts s' = fieldTVs tb z fs k at' parts s
 | [], _, _, [], _ => rfl
 | [], _, _, _ :: _, _ => rfl
 | (off, ft) :: fs, k, at', parts, he => by
  unfold fieldTVs
  cases tb.get ft with
  | none => rfl
  | some fi =>
   simp only
   split
   ·cases parts with
    | nil =>
     simp only
     rw [fieldTVs_congr (parts := []) he]
    | cons p r =>
     obtain ⟨j, x⟩ := p
     have h1 : ev s' x = ev s x := he _ (by simp)
     have h2 : ∀ y ∈ r.map (·.2), ev s' y = ev s y := fun y hy => he y (by simp only [List.map_cons, List.mem_cons]; exact .inr hy)
     by_cases hj : (j == k) = true
     ·simp only [if_pos hj]
      rw [h1, fieldTVs_congr (parts := r) h2]
     ·simp only [if_neg hj]
      rw [fieldTVs_congr (parts := (j, x) :: r) he]
   ·rfl
theorem opBuild_congr {t : Nat} {parts : Array (Nat × Operand)} (h : ∀ x ∈ parts.toList.map (·.2), ev s' x = ev s x) {e : Eff R} (he : opBuild tb t parts s = some e) :
  e.base = s ∧ opBuild tb t parts s' = some (e.at s') := by
 unfold opBuild at he ⊢
 split at he
 ·split at he
  ·rw [fieldTVs_congr h]
   split at he
   ·split at he
    ·rename_i hc
     cases he
     exact ⟨rfl, by rw [if_pos hc]; rfl⟩
    ·cases he
   ·cases he
  ·cases he
 ·cases he
theorem rowTVs_hold {t : Ty} : ∀ {k : Nat} {parts : List (Nat × Operand)} {l : List t.den} {s1 : St}, holdAll s (parts.map (·.2)) = true → (∀ x ∈ parts.map (·.2), ev s' x = ev s x) →
  rowTVs t k parts s = some (l, s1) → s1 = s ∧ rowTVs t k parts s' = some (l, s')
 | k, [], l, s1, _, _, h => by simp only [rowTVs, Option.some.injEq, Prod.mk.injEq] at h; exact ⟨h.2.symm, by simp only [rowTVs, h.1]⟩
 | k, (j, x) :: r, l, s1, hp, he, h => by
  simp only [holdAll, List.map_cons, List.all_cons, Bool.and_eq_true] at hp
  simp only [rowTVs] at h ⊢
  rw [he x (by simp)]
  split at h
  ·rename_i hj
   split at h
   ·rename_i tv hx
    have hpu : tv.t.hold = true := by have := hp.1; rw [hx] at this; exact this
    rw [toHold_hold hpu] at h
    simp only at h
    split at h
    ·rename_i v hv
     split at h
     ·rename_i l' s'' hq
      obtain ⟨h1, h2⟩ := rowTVs_hold hp.2 (fun y hy => he y (by simp only [List.map_cons, List.mem_cons]; exact .inr hy)) hq
      cases h
      refine ⟨h1, ?_⟩
      simp only [hj, if_true, toHold_hold hpu, hv, h2]
     ·cases h
    ·cases h
   ·cases h
  ·cases h
theorem rowTy_hold {t : Ty} {parts : List (Nat × Operand)} (hp : holdAll s (parts.map (·.2)) = true) (he : ∀ x ∈ parts.map (·.2), ev s' x = ev s x) : rowTy t s' parts = rowTy t s parts := by
 cases parts with
 | nil => rfl
 | cons p r =>
  obtain ⟨j, x⟩ := p
  simp only [rowTy]
  rw [he x (by simp)]
  simp only [holdAll, List.map_cons, List.all_cons, Bool.and_eq_true] at hp
  cases hx : ev s x with
  | none => rfl
  | some tv =>
   have hpu : tv.t.hold = true := by have := hp.1; rw [hx] at this; exact this
   simp only [toHold_hold hpu]
theorem opBuildSlice_congr {t len : Nat} {parts : Array (Nat × Operand)} (h : ∀ x ∈ parts.toList.map (·.2), ev s' x = ev s x) (hp : holdAll s (parts.toList.map (·.2)) = true) {e : Eff R} (he : opBuildSlice tb t len parts id s = some e) :
  e.base = s ∧ opBuildSlice tb t len parts id s' = some (e.at s') := by
 unfold opBuildSlice at he ⊢
 split at he
 ·rename_i e' hel
  rw [rowTy_hold (t := e'.ty) hp h]
  split at he
  ·rename_i hpure
   rw [if_pos hpure]
   unfold opBuildSliceT at he ⊢
   split at he
   ·rename_i hc
    rw [if_pos hc]
    split at he
    ·rename_i hq
     obtain ⟨h1, h2⟩ := rowTVs_hold hp h hq
     cases he
     refine ⟨h1, ?_⟩
     simp only [h2]; rfl
    ·cases he
   ·cases he
  ·cases he
 ·cases he
theorem listTVc_congr {x : TV} (h : ∀ r, r ∈ x.t.regs → s'.cont r = s.cont r) (hp : s'.pls = s.pls) : listTVc s' x = listTVc s x := by
 obtain ⟨t, v⟩ := x
 cases t <;> first
  | (simp only [listTVc, listTV_congr h]; done)
  | (simp only [listTVc, hp]; done)
end Go.Vu
