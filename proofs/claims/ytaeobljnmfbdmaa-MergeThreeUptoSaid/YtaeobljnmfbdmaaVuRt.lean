/- Value semantics, part 27: contracts beside each other; what printed texts lean on. -/
import Derived.Test.YtaeobljnmfbdmaaVuLaw20
set_option linter.unusedVariables false
namespace Go.Vu
open Go
variable {P : Program}
def gam : List (Nat × Ctr) → Nat → List Ctr
 | [], _ => []
 | (k, c) :: r, f => if k == f then c :: gam r f else gam r f
def bodyOf (f : Func) : Code := match f.body with
 | some c => c
 | none => .skip
def enters (P : Program) (f : Nat) : Bool := match P.funcs[f]? with
 | some fn => fn.name != "runtime.NumGoroutine" && fn.body.isSome
 | none => false
theorem enters_law {f : Nat} (h : enters P f = true) (args : Array Value) (w : World) : (callFunc f args).run P w = .ok (.enter f args) w := by
 unfold enters at h
 split at h
 ·rename_i fn hf
  simp only [Bool.and_eq_true, bne_iff_ne, ne_eq] at h
  obtain ⟨h1, h2⟩ := h
  have h3 : fn.body.isNone = false := by cases hb : fn.body <;> simp [hb] at h2 ⊢
  have hp : Sem.run P program w = .ok P w := rfl
  unfold callFunc
  rw [Sem.run_bind, hp, Result.andThen_ok]
  simp [hf, h1, h3]
 ·cases h
theorem gam_ok {l : List (Nat × Ctr)} (h : ∀ p ∈ l, p.2.Ok P p.1 ∧ enters P p.1 = true) : CtrsOk P (gam l) := by
 induction l with
 | nil => intro f c hc; simp [gam] at hc
 | cons p l ih =>
  obtain ⟨k, c0⟩ := p
  intro f c hc
  simp only [gam] at hc
  split at hc
  ·rename_i e
   have e : k = f := by simpa using e
   subst e
   rcases List.mem_cons.1 hc with rfl | hc
   ·exact ⟨(h (k, c) (by simp)).1, enters_law (h (k, c) (by simp)).2⟩
   ·exact ih (fun p hp => h p (by simp [hp])) k c hc
  ·exact ih (fun p hp => h p (by simp [hp])) f c hc
theorem ok_of {ps : List PM} {rs : List RM} {g : PDen ps → Option (ODen (mutTy ps) × RDen rs)} {f : Nat} (h : ∀ v r, g v = some r → ∃ g', Ctr.Ok P f ⟨ps, rs, g'⟩ ∧ g' v = some r) : Ctr.Ok P f ⟨ps, rs, g⟩ :=
 fun v r hv => let ⟨_, h1, h2⟩ := h v r hv; h1 v r h2
theorem all_nil {Q : Nat × Ctr → Prop} : ∀ p ∈ ([] : List (Nat × Ctr)), Q p := fun p hp => by simp at hp
theorem all_cons {Q : Nat × Ctr → Prop} {k : Nat} {c : Ctr} {l : List (Nat × Ctr)} (h : Q (k, c)) (r : ∀ p ∈ l, Q p) : ∀ p ∈ (k, c) :: l, Q p := fun p hp => by
 rcases List.mem_cons.1 hp with rfl | hp
 ·exact h
 ·exact r p hp
theorem printed {tb : Tab} {g : List (Nat × Ctr)} {H : Nat → Option LH} {f : Nat} {fn : Func} {c : Ctr} {is : List Nat} {cells : List (Nat × Nat)} {n : Nat} {lp : List (Nat × Ty)} (hT : TabOk P tb) (hm : P.follows .mixedOrders = true) (hf : P.funcs[f]? = some fn) (hb : fn.body.isSome = true)
  (hn : fn.ntmps = n) (hres : fn.results = (is.map (resVar n cells)).toArray) (hps : modesOk c lp (bodyOf fn) cells n = true)
  (hg : ∀ p ∈ g, p.2.Ok P p.1 ∧ enters P p.1 = true) (he : ∀ v, semF tb (gam g) H fuelN n (bodyOf fn) lp c.ps c.rs is cells v = c.g v) : c.Ok P f := by
 subst hn
 cases hbb : fn.body with
 | none => rw [hbb] at hb; cases hb
 | some body =>
  have e : bodyOf fn = body := by simp [bodyOf, hbb]
  rw [e] at hps he
  exact fun_ok hT (gam_ok hg) hm hf hbb hres hps fun v r h => by rw [he]; exact h
def shL' {α : Type} (_ : List (Option (List α))) (f : α → α) (l : List (Option (List α))) : List (Option (List α)) := l.map fun o => o.map fun xs => xs.map f
def FuelW : Type := Nat
abbrev fuN [i : Inhabited FuelW] : Nat := i.default
noncomputable instance fuelI : Inhabited FuelW := ⟨fuelN⟩
end Go.Vu
