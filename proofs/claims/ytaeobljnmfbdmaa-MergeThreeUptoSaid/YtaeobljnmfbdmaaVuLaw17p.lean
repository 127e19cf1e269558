/- Value semantics, part 23p: moves that may come late are taken first. -/
import Derived.Test.YtaeobljnmfbdmaaVuLaw16
import Derived.Test.YtaeobljnmfbdmaaVuLaw7
set_option linter.unusedVariables false
namespace Go.Vu
open Go
variable {x0 y0 : Operand} {P : Program} {Q Q' : Exit → Act → World → Prop} {ops : Array Oper}
theorem wp_monoQ (h : ∀ e a w, Q' e a w → Q e a w) {o : Oper} {a : Act} {w : World} {K : Act → World → Prop} (hh : o.wp P a w K Q') : o.wp P a w K Q := by
 unfold Oper.wp at *
 generalize (execOp a.eval o).run P w = r at *
 cases r with
 | ok n w' =>
  cases n <;> simp only [Oper.upon] at hh ⊢ <;>
   first
    | exact hh
    | exact Calls.mono hh (fun e w'' he => by
      cases e <;> first | exact he | exact h _ _ _ he | (obtain ⟨a1, w1, h1⟩ := he; exact ⟨a1, w1, h _ _ _ h1⟩))
 | halt x w' => cases x <;> simp only [Oper.upon] at hh ⊢ <;> first | exact hh | exact h _ _ _ hh
theorem wpOp_monoQ (h : ∀ e a w, Q' e a w → Q e a w) {i : Nat} {a : Act} {w : World} {K K' : Act → World → Prop} (hK : ∀ a w, K a w → K' a w) (hh : wpOp P ops Q' i K a w) : wpOp P ops Q i K' a w := by
 have h1 := wpOp_mono hK hh
 unfold wpOp at *
 split
 ·rename_i ho; simpa [ho] using h1
 ·rename_i o ho
  simp only [ho] at h1
  split
  ·rename_i hw
   simp only [hw, if_true] at h1
   exact h1.imp (wp_monoQ h) (fun h2 => ⟨h2.1, let ⟨a1, w1, h3⟩ := h2.2; ⟨a1, w1, h _ _ _ h3⟩⟩)
  ·rename_i hw; simp only [hw] at h1; exact h1
theorem wpAny_monoQ (h : ∀ e a w, Q' e a w → Q e a w) : ∀ (f : Nat) (listed : Array Bool) (a : Act) (w : World), wpAny P .any ops Q' f listed a w → wpAny P .any ops Q f listed a w
 | 0, _, _, _, h1 => ⟨h1.1, h _ _ _ h1.2⟩
 | f + 1, listed, a, w, h1 => ⟨fun h0 => h _ _ _ (h1.1 h0), fun i hi => wpOp_monoQ h (fun a w h2 => wpAny_monoQ h f _ a w h2) (h1.2 i hi)⟩
theorem patch_size {n : Nat} {L : List Nat} : (patchAt n L ops).size = ops.size := by unfold patchAt; split <;> simp
theorem patch_get {n : Nat} {L : List Nat} (i : Nat) : (patchAt n L ops)[i]? = if i = n then (ops[i]?).map (addE L) else ops[i]? := by
 unfold patchAt
 split
 ·rename_i o ho
  rw [Array.getElem?_setIfInBounds]
  split
  ·rename_i e
   subst e
   rw [if_pos rfl, ho]
   have := (Array.getElem?_eq_some_iff.1 ho).1
   simp [this]
  ·rename_i e
   rw [if_neg (Ne.symm e)]
 ·rename_i ho
  split
  ·rename_i e; subst e; rw [ho]; rfl
  ·rfl
theorem patch_dst {n : Nat} {L : List Nat} (j : Nat) : ((patchAt n L ops)[j]?).bind (·.dst) = (ops[j]?).bind (·.dst) := by
 rw [patch_get]
 split
 ·cases ops[j]? <;> rfl
 ·rfl
theorem patch_yielded {n : Nat} {L : List Nat} (tmps : Array Value) : yielded (patchAt n L ops) tmps = yielded ops tmps := by
 funext j
 unfold yielded
 rw [patch_dst]
theorem patch_ready {n : Nat} {L : List Nat} {listed : Array Bool} (hL : ∀ k ∈ L, listed.getD k false = true) : Region.ready .any (patchAt n L ops) listed = Region.ready .any ops listed := by
 unfold Region.ready
 rw [patch_size]
 congr 1
 funext i
 rw [patch_get]
 split
 ·congr 1
  cases ops[i]? with
  | none => rfl
  | some o =>
   simp only [Option.map_some, Option.getD_some, addE, Array.all_append]
   have : (L.map fun k => (⟨k, .data⟩ : Edge)).toArray.all (fun e => !Region.binds .any e || listed.getD e.on false) = true := by
    rw [Array.all_eq_true_iff_forall_mem]
    intro e he
    simp only [List.mem_toArray, List.mem_map] at he
    obtain ⟨k, hk, rfl⟩ := he
    simp [hL k hk]
   rw [this, Bool.and_true]
 ·rfl
theorem patch_wpOp {n : Nat} {L : List Nat} {i : Nat} {a : Act} {w : World} {K K' : Act → World → Prop} (hK : ∀ a w, K a w → K' a w) (hh : wpOp P (patchAt n L ops) Q i K a w) : wpOp P ops Q i K' a w := by
 have h1 := wpOp_mono hK hh
 clear hh
 unfold wpOp at *
 rw [patch_get, patch_yielded] at h1
 by_cases e : i = n
 ·rw [if_pos e] at h1
  cases ho : ops[i]? with
  | none => rw [ho] at h1; exact h1
  | some o => rw [ho] at h1; exact h1
 ·rw [if_neg e] at h1
  exact h1
theorem patch_any {n : Nat} {L : List Nat} : ∀ (f : Nat) (listed : Array Bool) (a : Act) (w : World), (∀ k ∈ L, listed.getD k false = true) → wpAny P .any (patchAt n L ops) Q f listed a w → wpAny P .any ops Q f listed a w
 | 0, _, _, _, hL, h1 => ⟨by rw [← patch_ready hL]; exact h1.1, h1.2⟩
 | f + 1, listed, a, w, hL, h1 => by
  have hr := patch_ready (n := n) (ops := ops) hL
  refine ⟨fun h0 => h1.1 (by rw [hr]; exact h0), fun i hi => patch_wpOp (fun a w h2 => patch_any f _ a w (fun k hk => getD_set_true (hL k hk)) h2) (h1.2 i (by rw [hr]; exact hi))⟩
def IntsAt (s : St) (a : Act) : Prop := (∀ i, i < s.n → i < a.tmps.size) ∧ ∀ i k n, s.get i = some ⟨.int k, n⟩ → a.tmps[i]? = some (.int k n)
theorem IntsAt.put {s : St} {a : Act} (h : IntsAt s a) (d : Option Nat) (x : TV) (v : Value) (hx : ∀ k n, x = ⟨.int k, n⟩ → v = .int k n) : IntsAt (s.put d x) (a.put d v) := by
 cases d with
 | none => exact h
 | some d =>
  refine ⟨fun i hi => by simpa [Act.put] using h.1 i hi, fun i k n hi => ?_⟩
  rw [St.get_put] at hi
  simp only [Act.put, Array.getElem?_setIfInBounds]
  split at hi
  ·rename_i e
   subst e
   split at hi
   ·rename_i hd
    rw [if_pos rfl, if_pos (h.1 _ hd), hx k n (Option.some.inj hi)]
   ·cases hi
  ·rename_i e
   rw [if_neg e]
   exact h.2 i k n hi
theorem IntsAt.ev {s : St} {a : Act} (h : IntsAt s a) {x : Operand} {k : IntKind} {n : Int} (hx : ev s x = some ⟨.int k, n⟩) : a.eval x = .int k n := by
 cases x with
 | tmp t =>
  simp only [Vu.ev] at hx
  split at hx
  ·rename_i y hy
   split at hx
   ·cases hx
   ·cases hx
    have := h.2 t k n hy
    simp [Act.eval, this]
  ·cases hx
 | const v =>
  simp only [Vu.ev] at hx
  unfold constTV at hx
  split at hx <;> first | (cases hx; rfl) | (split at hx <;> cases hx; done) | (cases hx; done)
 | func f => simp only [Vu.ev] at hx; cases hx
 | global g => simp only [Vu.ev] at hx; cases hx
theorem run_addsub {op : BinOp} {t : Nat} {k : IntKind} {m n : Int} {w : World} : (op = .add → (do eqGuard op t x0 y0 (.int k m) (.int k n); binOp op t (.int k m) (.int k n) : Sem Value).run P w = .ok (.int k (k.wrap (m + n))) w) ∧
  (op = .sub → (do eqGuard op t x0 y0 (.int k m) (.int k n); binOp op t (.int k m) (.int k n) : Sem Value).run P w = .ok (.int k (k.wrap (m - n))) w) := by
 constructor
 ·rintro rfl
  simp only [Sem.run_bind, eqGuard_run (P := P) (w := w) (op := .add) (t := t) (x := x0) (y := y0) (u := .int k m) (v := .int k n) rfl, Result.andThen_ok, binOp]
  simp [Op.intArith]
 ·rintro rfl
  simp only [Sem.run_bind, eqGuard_run (P := P) (w := w) (op := .sub) (t := t) (x := x0) (y := y0) (u := .int k m) (v := .int k n) rfl, Result.andThen_ok, binOp]
  simp [Op.intArith]
theorem takes_any {n : Nat} {L : List Nat} (hs : Region.noSelect ops = true) (hQ : ∀ e a w, Q e a w → e = .normal) : ∀ (r : List Nat) (f : Nat) (listed : Array Bool) (s : St) (a : Act) (w : World), takesB n L ops r listed = true →
  IntsAt s a → looseRun ops r s = true →
  wpAny P .any (patchAt n L ops) Q (f + r.length) listed a w → wpAny P .any ops Q (f + r.length) listed a w
 | [], f, listed, s, a, w, ht, _, _, h => patch_any f listed a w (fun k hk => List.all_eq_true.1 ht k hk) h
 | l :: r, f, listed, s, a, w, ht, hI, hrn, h => by
  simp only [takesB, Bool.and_eq_true] at ht
  obtain ⟨⟨⟨⟨h1, h2⟩, h3⟩, h4⟩, h5⟩ := ht
  split at h1
  ·rename_i o ho
   simp only [Bool.and_eq_true, Option.isNone_iff_eq_none] at h1
   obtain ⟨hg, hop⟩ := h1
   have hrun : ∃ v x, (∀ w, (execOp a.eval o).run P w = .ok (.value v) w) ∧ (∀ k n, x = (⟨.int k, n⟩ : TV) → v = .int k n) ∧ looseRun ops r (s.put o.dst x) = true := by
    simp only [looseRun, ho] at hrn
    have mv : ∀ x : Operand, ∀ k n, intTV (ev s x) = (⟨.int k, n⟩ : TV) → a.eval x = .int k n := fun x k n hx => by
     refine hI.ev ?_
     unfold intTV at hx
     split at hx
     ·rename_i k' n' hq; cases hx; exact hq
     ·cases hx
    split at hrn
    ·rename_i x hx; exact ⟨_, _, fun w => by simp only [execOp, hx]; rfl, mv x, hrn⟩
    ·rename_i x hx; exact ⟨_, _, fun w => by simp only [execOp, hx]; rfl, mv x, hrn⟩
    ·rename_i t x y t2 hx
     split at hrn
     ·rename_i k m k' q h6 h7
      simp only [Bool.and_eq_true, decide_eq_true_eq] at hrn
      obtain ⟨rfl, hrn⟩ := hrn
      refine ⟨_, _, fun w => ?_, fun k n hx => by cases hx; rfl, hrn⟩
      have := (run_addsub (P := P) (x0 := x) (y0 := y) (op := .add) (t := t) (k := k) (m := m) (n := q) (w := w)).1 rfl
      simp only [execOp, hx, hI.ev h6, hI.ev h7]
      rw [Sem.run_bind, this]
      rfl
     ·cases hrn
    ·rename_i t x y t2 hx
     split at hrn
     ·rename_i k m k' q h6 h7
      simp only [Bool.and_eq_true, decide_eq_true_eq] at hrn
      obtain ⟨rfl, hrn⟩ := hrn
      refine ⟨_, _, fun w => ?_, fun k n hx => by cases hx; rfl, hrn⟩
      have := (run_addsub (P := P) (x0 := x) (y0 := y) (op := .sub) (t := t) (k := k) (m := m) (n := q) (w := w)).2 rfl
      simp only [execOp, hx, hI.ev h6, hI.ev h7]
      rw [Sem.run_bind, this]
      rfl
     ·cases hrn
    ·cases hrn
   obtain ⟨v, x, hrun, hxv, hrn'⟩ := hrun
   have hw : ∀ y, Region.wanted o y = true := fun y => by simp [Region.wanted, hg]
   have hstep := h.2 l (by simpa using h3)
   have hstep := patch_wpOp (K' := wpAny P .any (patchAt n L ops) Q (f + r.length) (listed.setIfInBounds l true)) (fun _ _ h => h) hstep
   unfold wpOp at hstep
   simp only [ho, hw, if_true] at hstep
   have hK : wpAny P .any (patchAt n L ops) Q (f + r.length) (listed.setIfInBounds l true) (a.put o.dst v) w := by
    rcases hstep with h6 | ⟨_, a1, w1, h7⟩
    ·unfold Oper.wp at h6
     rw [hrun] at h6
     exact h6
    ·have := hQ _ _ _ h7; cases this
   exact wpAny_take ho hs h4 h2 (fun c a w h => by have := hQ _ _ _ h; cases this) (.inl ⟨hw _, hrun⟩) (takes_any hs hQ r f _ _ _ w h5 (hI.put o.dst x v hxv) hrn' hK)
  ·cases h1
theorem regPatch_spec {m : Nat} {L : List Nat} (h : regPatch ops = some (m, L)) : Region.noSelect ops = true ∧ L.length ≤ ops.size ∧ takesB m L ops L (Array.replicate ops.size false) = true := by
 unfold regPatch at h
 split at h
 ·cases h
 ·split at h
  ·cases h
  ·split at h
   ·rename_i hc
    simp only [Bool.and_eq_true, decide_eq_true_eq] at hc
    cases h
    exact ⟨hc.1.1, hc.1.2, hc.2⟩
   ·cases h
end Go.Vu
