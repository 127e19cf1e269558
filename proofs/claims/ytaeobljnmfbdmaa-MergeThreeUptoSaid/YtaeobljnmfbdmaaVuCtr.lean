/- Value semantics, part 17: what a function promises, and what a call of it does. -/
import Derived.Test.YtaeobljnmfbdmaaVuLaw13c
set_option linter.unusedVariables false
namespace Go.Vu
open Go
variable {P : Program} {tb : Tab} {R : Type} {F0 : Bs} {M F : Nat → Prop} {W0 w w' : World} {ρ : RK → Option RI} {s : St} {a : Act} {m : Nat → Nat → Option Value} {id : Nat}
def ρ0 : RK → Option RI := fun _ => none
def plR (ρ : RK → Option RI) : RK → Option RI
 | .reg _ => none
 | .pl p i => ρ (.pl p i)
def TRep (F : Nat → Prop) (w : World) (ρ : RK → Option RI) : (t : Ty) → t.den → List Value → List RI → Prop
 | .vec t, xs, cs, ris => ∃ ri, ris = [ri] ∧ cs = [ri.val] ∧ ORep F w ρ ri ⟨t, xs⟩
 | .bx t, v, cs, ris => ∃ ri rs p ds cells el, ris = ri :: rs ∧ cs = [.pointer (some (adr p))] ∧ ri.A = some p ∧ (ri.sub = [] ∧ ri.c = 1) ∧ w.heap[p.1]? = some (.cells cells el (0, 0)) ∧ p.2 + t.size ≤ cells.size ∧
   CellsAt (mem w) p.1 p.2 ds ∧ TRep F w ρ t v ds rs
 | .iter, v, cs, ris => ∃ ri, ris = [ri] ∧ cs = [.pointer (ri.A.map adr)] ∧ SRep w ri v.1 v.2
 | .mpc k t, v, cs, ris => ∃ ri, ris = [ri] ∧ cs = [.map (ri.A.map (·.1))] ∧ MRep F w ρ ri k t v
 | .mit k t, v, cs, ris => ∃ ri, ris = [ri] ∧ cs = [.pointer (ri.A.map adr)] ∧ IRep F w ρ ri k t v.1 v.2
 | .st t, v, cs, ris => TRep F w ρ t v cs ris
 | .pair a b, v, cs, ris => ∃ c1 c2 r1 r2, cs = c1 ++ c2 ∧ ris = r1 ++ r2 ∧ TRep F w ρ a v.1 c1 r1 ∧ TRep F w ρ b v.2 c2 r2
 | t, v, cs, ris => ris = [] ∧ t.hold = true ∧ Rep F (mem w) ρ t v cs
def TRepV (F : Nat → Prop) (w : World) (ρ : RK → Option RI) (t : Ty) (v : t.den) (x : Value) (ris : List RI) : Prop :=
 if isSt t then ∃ cs, x = .agg cs.toArray ∧ TRep F w ρ t v cs ris else x.oneCell' = true ∧ TRep F w ρ t v [x] ris
def pCont : (ps : List (Nat × Ty)) → PlDen ps → Nat → Nat → Option Cont
 | [], _, _, _ => none
 | (k, t) :: r, v, p, i => bif Nat.beq k p then PL.cont ⟨t, v.1⟩ i else pCont r v.2 p i
def pLen : (ps : List (Nat × Ty)) → PlDen ps → Nat → Option Nat
 | [], _, _ => none
 | (k, _) :: r, v, p => bif Nat.beq k p then some v.1.length else pLen r v.2 p
structure PRep (F : Nat → Prop) (w : World) (ρ : RK → Option RI) (ps : List (Nat × Ty)) (v : PlDen ps) (rp : RI) : Prop where
 A : rp.A = none ∧ rp.c = 1
 obj : ∀ p i c, pCont ps v p i = some c → ∃ ri, ρ (.pl p i) = some ri ∧ CRep F w ρ ri c ∧ ∀ b, ri.blk b → b ∈ rp.sub
 sep : ∀ p i p' i' c c' ri ri' b, pCont ps v p i = some c → pCont ps v p' i' = some c' → ρ (.pl p i) = some ri → ρ (.pl p' i') = some ri' → ri.blk b → ri'.blk b → p = p' ∧ i = i'
 sub : ∀ b, b ∈ rp.sub → ∃ p i c ri, pCont ps v p i = some c ∧ ρ (.pl p i) = some ri ∧ ri.blk b
 fresh : ∀ p n i, pLen ps v p = some n → n ≤ i → ρ (.pl p i) = none
def ArgsRep (F : Nat → Prop) (w : World) (ρ : RK → Option RI) : (ps : List PM) → PDen ps → List Value → List RI → Prop
 | [], _, xs, ris => xs = [] ∧ ris = []
 | .ro t :: ps, v, xs, ris => ∃ x r, xs = x :: r ∧ t.hold = true ∧ RepV1 F (mem w) ρ t v.1 x ∧ ArgsRep F w ρ ps v.2 r ris
 | .mu t :: ps, v, xs, ris => ∃ x r r1 r2, xs = x :: r ∧ ris = r1 ++ r2 ∧ TRepV F w ρ t v.1 x r1 ∧ ArgsRep F w ρ ps v.2 r r2
 | .own t :: ps, v, xs, ris => ∃ x r r1 r2, xs = x :: r ∧ ris = r1 ++ r2 ∧ TRepV F w ρ t v.1 x r1 ∧ ArgsRep F w ρ ps v.2 r r2
 | .ownp qs t :: ps, v, xs, ris => ∃ x r r1 rp r2, xs = x :: r ∧ ris = r1 ++ rp :: r2 ∧ TRepV F w ρ t v.1.2 x r1 ∧ PRep F w ρ qs v.1.1 rp ∧ ArgsRep F w ρ ps v.2 r r2
def Blk (ris : List RI) (b : Nat) : Prop := ∃ ri ∈ ris, ri.blk b
def Apart : List RI → Prop
 | [] => True
 | ri :: rs => (∀ b, ri.blk b → ¬ Blk rs b) ∧ Apart rs
theorem Blk.append {a b : List RI} {k : Nat} : Blk (a ++ b) k ↔ Blk a k ∨ Blk b k := by
 simp only [Blk, List.mem_append]
 constructor
 ·rintro ⟨ri, h | h, h2⟩
  ·exact .inl ⟨ri, h, h2⟩
  ·exact .inr ⟨ri, h, h2⟩
 ·rintro (⟨ri, h, h2⟩ | ⟨ri, h, h2⟩)
  ·exact ⟨ri, .inl h, h2⟩
  ·exact ⟨ri, .inr h, h2⟩
theorem Apart.append {a b : List RI} : Apart (a ++ b) ↔ Apart a ∧ Apart b ∧ ∀ k, Blk a k → ¬ Blk b k := by
 induction a with
 | nil => simp [Apart, Blk]
 | cons x a ih =>
  simp only [List.cons_append, Apart, ih]
  constructor
  ·rintro ⟨h1, h2, h3, h4⟩
   refine ⟨⟨fun k hk hb => h1 k hk (Blk.append.2 (.inl hb)), h2⟩, h3, fun k hk hb => ?_⟩
   obtain ⟨ri, hm, hk⟩ := hk
   rcases List.mem_cons.1 hm with rfl | hm
   ·exact h1 k hk (Blk.append.2 (.inr hb))
   ·exact h4 k ⟨ri, hm, hk⟩ hb
  ·rintro ⟨⟨h1, h2⟩, h3, h4⟩
   refine ⟨fun k hk hb => ?_, h2, h3, fun k ⟨ri, hm, hk⟩ => h4 k ⟨ri, List.mem_cons_of_mem _ hm, hk⟩⟩
   rcases Blk.append.1 hb with hb | hb
   ·exact h1 k hk hb
   ·exact h4 k ⟨x, by simp, hk⟩ hb
def mutRI : List PM → List RI → Option RI
 | .mu _ :: _, ris => ris.head?
 | .own t :: ps, ris => mutRI ps (ris.drop (cnt t))
 | .ownp _ t :: ps, ris => mutRI ps (ris.drop (cnt t + 1))
 | .ro _ :: ps, ris => mutRI ps ris
 | _, _ => none
def ResRep1 (G : Nat → Prop) (w : World) (ρ : RK → Option RI) : (r : RM) → r.den → Value → List RI → Prop
 | .val t, v, x, ris => ris = [] ∧ t.hold = true ∧ RepV1 G (mem w) ρ t v x
 | .own t, v, x, ris => TRepV G w ρ t v x ris
 | .ownp ps t, v, x, ris => ∃ ρr r1 rp, (∀ p i, inPl p ps = false → ρr (.pl p i) = ρ (.pl p i)) ∧ ris = r1 ++ [rp] ∧ TRepV G w ρr t v.2 x r1 ∧ PRep G w ρr ps v.1 rp
def ResRepL (G : Nat → Prop) (w : World) (ρ : RK → Option RI) : (rs : List RM) → RDen rs → List Value → List RI → Prop
 | [], _, xs, ris => xs = [] ∧ ris = []
 | r :: rs, v, xs, ris => ∃ x l r1 r2, xs = x :: l ∧ ris = r1 ++ r2 ∧ ResRep1 G w ρ r v.1 x r1 ∧ ResRepL G w ρ rs v.2 l r2
def ResRep (G : Nat → Prop) (w : World) (ρ : RK → Option RI) : (rs : List RM) → RDen rs → Value → List RI → Prop
 | [], _, _, ris => ris = []
 | [r], v, x, ris => ResRep1 G w ρ r v.1 x ris
 | r :: q :: rs, v, x, ris => ∃ l, x = .tuple l.toArray ∧ ResRepL G w ρ (r :: q :: rs) v l ris
def rootVal : Ty → RI → Value
 | .bx _, r => .pointer (r.A.map adr)
 | _, r => r.val
def MutRep (G : Nat → Prop) (w : World) (ρ : RK → Option RI) : (mt : Option NK) → ODen mt → Option RI → List RI → Prop
 | none, _, _, rs => rs = []
 | some (.cl T), v, o, rs => ∃ r, o = some r ∧ TRep G w ρ T v [rootVal T r] (r :: rs)
 | some (.raw _), _, _, _ => False
 | some (.pl _), _, _, _ => False
 | some (.clp _ _), _, _, _ => False
def Ctr.Ok (P : Program) (f : Nat) (c : Ctr) : Prop := ∀ (v : PDen c.ps) (r : ODen (mutTy c.ps) × RDen c.rs), c.g v = some r →
 ∀ (w : World) (F : Nat → Prop) (ρ : RK → Option RI) (args : List Value) (ris : List RI), (∀ b, F b → b < w.heap.size) → ArgsRep F w (plR ρ) c.ps v args ris → Apart ris → (∀ b, Blk ris b → ¬ F b) →
  Calls P f args.toArray w fun e w' => ∃ (val : Value) (Fn : Nat → Prop) (mrs rrs : List RI), e = .returned val ∧ Kept (Blk ris) w w' ∧ (∀ b, Fn b → (w.heap.size ≤ b ∨ Blk ris b) ∧ b < w'.heap.size) ∧
   ResRep (fun b => F b ∨ Fn b) w' (plR ρ) c.rs r.2 val rrs ∧ MutRep (fun b => F b ∨ Fn b) w' (plR ρ) (mutTy c.ps) r.1 (mutRI c.ps ris) mrs ∧
   Apart ((mutRI c.ps ris).toList ++ mrs ++ rrs) ∧ ∀ b, Blk ((mutRI c.ps ris).toList ++ mrs ++ rrs) b → ¬ Fn b ∧ (w.heap.size ≤ b ∨ Blk ris b)
def CtrsOk (P : Program) (Γ : Nat → List Ctr) : Prop := ∀ f, ∀ c ∈ Γ f, c.Ok P f ∧ ∀ args w, (callFunc f args).run P w = .ok (.enter f args) w
end Go.Vu
