/- Value semantics, part 17: what a function promises, and what a call of it does. -/
import Derived.Test.YtfklhbmicfammaaVsLaw11z
set_option linter.unusedVariables false
namespace Go.Vs
open Go

variable {P : Program} {tb : Tab} {R : Type} {F0 M F : Nat → Prop} {W0 w w' : World} {ρ : Nat → Option RI} {s : St} {a : Act} {m : Nat → Nat → Option Value} {id : Nat}

def ρ0 : Nat → Option RI := fun _ => none

/- - the arguments as a callee meets them: what is read lies in F; a region of its own for each that is handed in whole -/
def ArgsRep (F : Nat → Prop) (w : World) : (ps : List PM) → PDen ps → List Value → List RI → Prop
  | [], _, xs, ris => xs = [] ∧ ris = []
  | .ro t :: ps, v, xs, ris => ∃ x r, xs = x :: r ∧ t.pure = true ∧ RepV1 F (mem w) ρ0 t v.1 x ∧ ArgsRep F w ps v.2 r ris
  | .mut t :: ps, v, xs, ris => ∃ ri rs r, xs = ri.val :: r ∧ ris = ri :: rs ∧ ORep F w ρ0 ri ⟨t, v.1⟩ ∧ ArgsRep F w ps v.2 r rs
  | .own t :: ps, v, xs, ris => ∃ ri rs r, xs = ri.val :: r ∧ ris = ri :: rs ∧ ORep F w ρ0 ri ⟨t, v.1⟩ ∧ ArgsRep F w ps v.2 r rs
  | .mutp t :: ps, v, xs, ris => ∃ ri rs r p, xs = .pointer (some (adr p)) :: r ∧ ris = ri :: rs ∧ ri.A = some p ∧ ri.n = 1 ∧ ORep F w ρ0 ri ⟨t, v.1⟩ ∧ ArgsRep F w ps v.2 r rs

/- - the blocks of regions -/
def Blk (ris : List RI) (b : Nat) : Prop := ∃ ri ∈ ris, ∃ p, ri.A = some p ∧ p.1 = b

/- - no two regions in one block -/
def Apart : List RI → Prop
  | [] => True
  | ri :: rs => (∀ p, ri.A = some p → ¬ Blk rs p.1) ∧ Apart rs

/- - the first region that is written and had again, and those that are used up -/
def mutRI : List PM → List RI → Option RI
  | .mut _ :: _, ri :: _ => some ri
  | .mutp _ :: _, ri :: _ => some ri
  | .own _ :: ps, _ :: ris => mutRI ps ris
  | .ro _ :: ps, ris => mutRI ps ris
  | _, _ => none
def ownRI : List PM → List RI → List RI
  | .own _ :: ps, ri :: ris => ri :: ownRI ps ris
  | .mut _ :: ps, _ :: ris => ownRI ps ris
  | .mutp _ :: ps, _ :: ris => ownRI ps ris
  | .ro _ :: ps, ris => ownRI ps ris
  | _, _ => []

/- - a result: in G, or a region of its own -/
def ResRep1 (G : Nat → Prop) (w : World) (ok : Nat → Prop) : (r : RM) → r.den → Value → Prop
  | .val t, v, x => t.pure = true ∧ RepV1 G (mem w) ρ0 t v x
  | .own t, v, x => ∃ ri, x = ri.val ∧ ORep G w ρ0 ri ⟨t, v⟩ ∧ ∀ p, ri.A = some p → ok p.1

def ResRepL (G : Nat → Prop) (w : World) (ok : Nat → Prop) : (rs : List RM) → RDen rs → List Value → Prop
  | [], _, xs => xs = []
  | r :: rs, v, xs => ∃ x l, xs = x :: l ∧ ResRep1 G w ok r v.1 x ∧ ResRepL G w ok rs v.2 l

def ResRep (G : Nat → Prop) (w : World) (ok : Nat → Prop) : (rs : List RM) → RDen rs → Value → Prop
  | [], _, _ => True
  | [r], v, x => ResRep1 G w ok r v.1 x
  | r :: q :: rs, v, x => ∃ l, x = .tuple l.toArray ∧ ResRepL G w ok (r :: q :: rs) v l

/- - what is written: the same place, new elements -/
def MutRep (G : Nat → Prop) (w : World) : (mt : Option Ty) → ODen mt → Option RI → Prop
  | none, _, _ => True
  | some t, ys, ri => ∃ r, ri = some r ∧ ORep G w ρ0 r ⟨t, ys⟩

/- - WHAT A FUNCTION PROMISES: where its values' function answers, the call returns just that, and keeps what is not its own -/
def Ctr.Ok (P : Program) (f : Nat) (c : Ctr) : Prop := ∀ (v : PDen c.ps) (r : ODen (mutTy c.ps) × RDen c.rs), c.g v = some r →
  ∀ (w : World) (F : Nat → Prop) (args : List Value) (ris : List RI), (∀ b, F b → b < w.heap.size) → ArgsRep F w c.ps v args ris → Apart ris → (∀ b, Blk ris b → ¬ F b) →
    Calls P f args.toArray w fun e w' => ∃ (val : Value) (Fn : Nat → Prop), e = .returned val ∧ Kept (Blk ris) w w' ∧ (∀ b, Fn b → w.heap.size ≤ b ∧ b < w'.heap.size) ∧
      ResRep (fun b => F b ∨ Fn b) w' (fun b => ¬ Fn b ∧ (w.heap.size ≤ b ∨ Blk (ownRI c.ps ris) b)) c.rs r.2 val ∧ MutRep (fun b => F b ∨ Fn b) w' (mutTy c.ps) r.1 (mutRI c.ps ris)

def CtrsOk (P : Program) (Γ : Nat → List Ctr) : Prop := ∀ f, ∀ c ∈ Γ f, c.Ok P f ∧ ∀ args w, (callFunc f args).run P w = .ok (.enter f args) w

end Go.Vs
