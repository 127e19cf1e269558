/- Value semantics, part 17: what a function promises, and what a call of it does. -/
import Derived.Test.YtfmhkcidechgdaaGreatVtLaw13c
set_option linter.unusedVariables false
namespace Go.Vt
open Go
variable {P : Program} {tb : Tab} {R : Type} {F0 M F : Nat → Prop} {W0 w w' : World} {ρ : Nat → Option RI} {s : St} {a : Act} {m : Nat → Nat → Option Value} {id : Nat}
def ρ0 : Nat → Option RI := fun _ => none
def TRep (F : Nat → Prop) (w : World) : (t : Ty) → t.den → List Value → List RI → Prop
  | .vec t, xs, cs, ris => ∃ ri, ris = [ri] ∧ cs = [ri.val] ∧ ORep F w ρ0 ri ⟨t, xs⟩
  | .bx t, v, cs, ris => ∃ ri rs p ds cells el, ris = ri :: rs ∧ cs = [.pointer (some (adr p))] ∧ ri.A = some p ∧ (ri.sub = [] ∧ ri.c = 1) ∧ w.heap[p.1]? = some (.cells cells el (0, 0)) ∧ p.2 + t.size ≤ cells.size ∧
      CellsAt (mem w) p.1 p.2 ds ∧ TRep F w t v ds rs
  | .iter, v, cs, ris => ∃ ri, ris = [ri] ∧ cs = [.pointer (ri.A.map adr)] ∧ SRep w ri v.1 v.2
  | .st t, v, cs, ris => TRep F w t v cs ris
  | .pair a b, v, cs, ris => ∃ c1 c2 r1 r2, cs = c1 ++ c2 ∧ ris = r1 ++ r2 ∧ TRep F w a v.1 c1 r1 ∧ TRep F w b v.2 c2 r2
  | t, v, cs, ris => ris = [] ∧ t.pure = true ∧ Rep F (mem w) ρ0 t v cs
def TRepV (F : Nat → Prop) (w : World) (t : Ty) (v : t.den) (x : Value) (ris : List RI) : Prop :=
  if isSt t then ∃ cs, x = .agg cs.toArray ∧ TRep F w t v cs ris else x.oneCell' = true ∧ TRep F w t v [x] ris
def ArgsRep (F : Nat → Prop) (w : World) : (ps : List PM) → PDen ps → List Value → List RI → Prop
  | [], _, xs, ris => xs = [] ∧ ris = []
  | .ro t :: ps, v, xs, ris => ∃ x r, xs = x :: r ∧ t.pure = true ∧ RepV1 F (mem w) ρ0 t v.1 x ∧ ArgsRep F w ps v.2 r ris
  | .mu t :: ps, v, xs, ris => ∃ x r r1 r2, xs = x :: r ∧ ris = r1 ++ r2 ∧ TRepV F w t v.1 x r1 ∧ ArgsRep F w ps v.2 r r2
  | .own t :: ps, v, xs, ris => ∃ x r r1 r2, xs = x :: r ∧ ris = r1 ++ r2 ∧ TRepV F w t v.1 x r1 ∧ ArgsRep F w ps v.2 r r2
def Blk (ris : List RI) (b : Nat) : Prop := ∃ ri ∈ ris, ri.blk b
def Apart : List RI → Prop
  | [] => True
  | ri :: rs => (∀ b, ri.blk b → ¬ Blk rs b) ∧ Apart rs
theorem Blk.append {a b : List RI} {k : Nat} : Blk (a ++ b) k ↔ Blk a k ∨ Blk b k := by
  simp only [Blk, List.mem_append]
  constructor
  · rintro ⟨ri, h | h, h2⟩
    · exact .inl ⟨ri, h, h2⟩
    · exact .inr ⟨ri, h, h2⟩
  · rintro (⟨ri, h, h2⟩ | ⟨ri, h, h2⟩)
    · exact ⟨ri, .inl h, h2⟩
    · exact ⟨ri, .inr h, h2⟩
theorem Apart.append {a b : List RI} : Apart (a ++ b) ↔ Apart a ∧ Apart b ∧ ∀ k, Blk a k → ¬ Blk b k := by
  induction a with
  | nil => simp [Apart, Blk]
  | cons x a ih =>
    simp only [List.cons_append, Apart, ih]
    constructor
    · rintro ⟨h1, h2, h3, h4⟩
      refine ⟨⟨fun k hk hb => h1 k hk (Blk.append.2 (.inl hb)), h2⟩, h3, fun k hk hb => ?_⟩
      obtain ⟨ri, hm, hk⟩ := hk
      rcases List.mem_cons.1 hm with rfl | hm
      · exact h1 k hk (Blk.append.2 (.inr hb))
      · exact h4 k ⟨ri, hm, hk⟩ hb
    · rintro ⟨⟨h1, h2⟩, h3, h4⟩
      refine ⟨fun k hk hb => ?_, h2, h3, fun k ⟨ri, hm, hk⟩ => h4 k ⟨ri, List.mem_cons_of_mem _ hm, hk⟩⟩
      rcases Blk.append.1 hb with hb | hb
      · exact h1 k hk hb
      · exact h4 k ⟨x, by simp, hk⟩ hb
def mutRI : List PM → List RI → Option RI
  | .mu _ :: _, ris => ris.head?
  | .own t :: ps, ris => mutRI ps (ris.drop (cnt t))
  | .ro _ :: ps, ris => mutRI ps ris
  | _, _ => none
def ResRep1 (G : Nat → Prop) (w : World) : (r : RM) → r.den → Value → List RI → Prop
  | .val t, v, x, ris => ris = [] ∧ t.pure = true ∧ RepV1 G (mem w) ρ0 t v x
  | .own t, v, x, ris => TRepV G w t v x ris
def ResRepL (G : Nat → Prop) (w : World) : (rs : List RM) → RDen rs → List Value → List RI → Prop
  | [], _, xs, ris => xs = [] ∧ ris = []
  | r :: rs, v, xs, ris => ∃ x l r1 r2, xs = x :: l ∧ ris = r1 ++ r2 ∧ ResRep1 G w r v.1 x r1 ∧ ResRepL G w rs v.2 l r2
def ResRep (G : Nat → Prop) (w : World) : (rs : List RM) → RDen rs → Value → List RI → Prop
  | [], _, _, ris => ris = []
  | [r], v, x, ris => ResRep1 G w r v.1 x ris
  | r :: q :: rs, v, x, ris => ∃ l, x = .tuple l.toArray ∧ ResRepL G w (r :: q :: rs) v l ris
def rootVal : Ty → RI → Value
  | .bx _, r => .pointer (r.A.map adr)
  | _, r => r.val
def MutRep (G : Nat → Prop) (w : World) : (mt : Option NK) → ODen mt → Option RI → List RI → Prop
  | none, _, _, rs => rs = []
  | some (.cl T), v, o, rs => ∃ r, o = some r ∧ TRep G w T v [rootVal T r] (r :: rs)
  | some (.raw _), _, _, _ => False
def Ctr.Ok (P : Program) (f : Nat) (c : Ctr) : Prop := ∀ (v : PDen c.ps) (r : ODen (mutTy c.ps) × RDen c.rs), c.g v = some r →
  ∀ (w : World) (F : Nat → Prop) (args : List Value) (ris : List RI), (∀ b, F b → b < w.heap.size) → ArgsRep F w c.ps v args ris → Apart ris → (∀ b, Blk ris b → ¬ F b) →
    Calls P f args.toArray w fun e w' => ∃ (val : Value) (Fn : Nat → Prop) (mrs rrs : List RI), e = .returned val ∧ Kept (Blk ris) w w' ∧ (∀ b, Fn b → (w.heap.size ≤ b ∨ Blk ris b) ∧ b < w'.heap.size) ∧
      ResRep (fun b => F b ∨ Fn b) w' c.rs r.2 val rrs ∧ MutRep (fun b => F b ∨ Fn b) w' (mutTy c.ps) r.1 (mutRI c.ps ris) mrs ∧
      Apart ((mutRI c.ps ris).toList ++ mrs ++ rrs) ∧ ∀ b, Blk ((mutRI c.ps ris).toList ++ mrs ++ rrs) b → ¬ Fn b ∧ (w.heap.size ≤ b ∨ Blk ris b)
def CtrsOk (P : Program) (Γ : Nat → List Ctr) : Prop := ∀ f, ∀ c ∈ Γ f, c.Ok P f ∧ ∀ args w, (callFunc f args).run P w = .ok (.enter f args) w
end Go.Vt
