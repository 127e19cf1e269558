/- Value semantics, part 3: a state of values, and how it stands to a frame and to memory. -/
import Derived.Test.YtaeobljnmfbdmaaVuLens
set_option linter.unusedVariables false
namespace Go.Vu
open Go
inductive Cont where
 | arr (o : OB) | box (x : TV) | it (s : List UInt8) (p : Nat)
 | mp (k : IntKind) (t : Ty) (l : List (Int × t.den)) | mit (k : IntKind) (t : Ty) (l : List (Int × t.den)) (c : Option (Int × t.den))
inductive ObS where
 | dead | live (c : Cont)
structure PL where
 t : Ty
 l : List (Option (List t.den))
structure St where
 n : Nat
 slots : List (Nat × TV)
 nx : Nat
 objs : List (Nat × ObS)
 pls : List (Nat × PL) := []
def asc : List (Nat × TV) → Nat → TV
 | [], _ => ⟨.any, ()⟩
 | (k, x) :: r, i => bif Nat.beq k i then x else asc r i
def St.get (s : St) (i : Nat) : Option TV := bif Nat.blt i s.n then some (asc s.slots i) else none
def ol : List (Nat × ObS) → Nat → Option ObS
 | [], _ => none
 | (k, x) :: l, r => bif Nat.beq k r then some x else ol l r
def ou : List (Nat × ObS) → Nat → ObS → List (Nat × ObS)
 | [], r, o => [(r, o)]
 | (k, x) :: l, r, o => bif Nat.beq k r then (k, o) :: l else (k, x) :: ou l r o
theorem beq_false {a b : Nat} (h : a ≠ b) : Nat.beq a b = false := by
 cases hb : Nat.beq a b with
 | false => rfl
 | true => exact absurd (Nat.eq_of_beq_eq_true hb) h
theorem ol_ou : ∀ (l : List (Nat × ObS)) (r : Nat) (o : ObS) (q : Nat), ol (ou l r o) q = if r = q then some o else ol l q
 | [], r, o, q => by
  simp only [ou, ol]
  by_cases e : r = q
  ·subst e; simp [Nat.beq_refl]
  ·simp [beq_false e, e]
 | (k, x) :: l, r, o, q => by
  simp only [ou]
  by_cases e : k = r
  ·subst e
   simp only [Nat.beq_refl, cond_true, ol]
   by_cases e2 : k = q
   ·subst e2; simp [Nat.beq_refl]
   ·simp [beq_false e2, e2]
  ·simp only [beq_false e, cond_false, ol]
   by_cases e2 : k = q
   ·subst e2
    simp [Nat.beq_refl, Ne.symm e]
   ·simp only [beq_false e2, cond_false, ol_ou l r o q]
def pol : List (Nat × PL) → Nat → Option PL
 | [], _ => none
 | (k, x) :: l, r => bif Nat.beq k r then some x else pol l r
def pou : List (Nat × PL) → Nat → PL → List (Nat × PL)
 | [], r, o => [(r, o)]
 | (k, x) :: l, r, o => bif Nat.beq k r then (k, o) :: l else (k, x) :: pou l r o
theorem pol_pou : ∀ (l : List (Nat × PL)) (r : Nat) (o : PL) (q : Nat), pol (pou l r o) q = if r = q then some o else pol l q
 | [], r, o, q => by
  simp only [pou, pol]
  by_cases e : r = q
  ·subst e; simp [Nat.beq_refl]
  ·simp [beq_false e, e]
 | (k, x) :: l, r, o, q => by
  simp only [pou]
  by_cases e : k = r
  ·subst e
   simp only [Nat.beq_refl, cond_true, pol]
   by_cases e2 : k = q
   ·subst e2; simp [Nat.beq_refl]
   ·simp [beq_false e2, e2]
  ·simp only [beq_false e, cond_false, pol]
   by_cases e2 : k = q
   ·subst e2
    simp [Nat.beq_refl, Ne.symm e]
   ·simp only [beq_false e2, cond_false, pol_pou l r o q]
def PL.cont (p : PL) (i : Nat) : Option Cont := match p.l[i]? with
 | some (some xs) => some (.arr ⟨p.t, xs⟩)
 | _ => none
def St.pln (s : St) (p : Nat) : Option Nat := match pol s.pls p with
 | some q => some q.l.length
 | none => none
def St.cont (s : St) : RK → Option Cont
 | .reg r => match ol s.objs r with
  | some (.live c) => some c
  | _ => none
 | .pl p i => match pol s.pls p with
  | some q => q.cont i
  | none => none
def St.obj (s : St) (r : RK) : Option OB := match s.cont r with
 | some (.arr o) => some o
 | _ => none
def St.bx (s : St) (r : RK) : Option TV := match s.cont r with
 | some (.box x) => some x
 | _ => none
def St.itc (s : St) (r : RK) : Option (List UInt8 × Nat) := match s.cont r with
 | some (.it l p) => some (l, p)
 | _ => none
def St.put (s : St) (d : Option Nat) (x : TV) : St := match d with
 | some i => ⟨s.n, (i, x) :: s.slots, s.nx, s.objs, s.pls⟩
 | none => s
def St.setObj (s : St) (r : Nat) (o : ObS) : St := ⟨s.n, s.slots, s.nx, ou s.objs r o, s.pls⟩
theorem St.obj_cont {s : St} {r : RK} {ob : OB} : s.obj r = some ob ↔ s.cont r = some (.arr ob) := by
 unfold St.obj
 cases s.cont r with
 | none => simp
 | some c => cases c <;> simp
theorem St.bx_cont {s : St} {r : RK} {x : TV} : s.bx r = some x ↔ s.cont r = some (.box x) := by
 unfold St.bx
 cases s.cont r with
 | none => simp
 | some c => cases c <;> simp
theorem St.itc_cont {s : St} {r : RK} {x : List UInt8 × Nat} : s.itc r = some x ↔ s.cont r = some (.it x.1 x.2) := by
 unfold St.itc
 obtain ⟨l, p⟩ := x
 cases s.cont r with
 | none => simp
 | some c => cases c <;> simp
theorem St.cont_iff {s : St} {r : Nat} {c : Cont} : s.cont r = some c ↔ ol s.objs r = some (.live c) := by
 simp only [St.cont]
 cases ol s.objs r with
 | none => simp
 | some o => cases o <;> simp
def ObS.cont : ObS → Option Cont
 | .dead => none
 | .live c => some c
theorem St.cont_setObj {s : St} {r : Nat} {q : RK} {o : ObS} : (s.setObj r o).cont q = if (r : RK) = q then o.cont else s.cont q := by
 cases q with
 | pl p i => simp [St.cont, St.setObj]
 | reg q =>
  simp only [St.cont, St.setObj, ol_ou, RK.reg.injEq]
  by_cases e : r = q
  ·simp only [if_pos e]
   cases o <;> rfl
  ·simp only [if_neg e]
theorem St.get_put {s : St} {d i : Nat} {x : TV} : (s.put (some d) x).get i = if d = i then (if i < s.n then some x else none) else s.get i := by
 simp only [St.get, St.put, asc]
 by_cases e : d = i
 ·subst e
  have : Nat.beq d d = true := Nat.beq_refl d
  rw [if_pos rfl, this]
  by_cases h : d < s.n
  ·have h1 : Nat.blt d s.n = true := by simpa [Nat.blt_eq] using h
   rw [h1, if_pos h]; rfl
  ·have h1 : Nat.blt d s.n = false := by
    cases hb : Nat.blt d s.n with
    | false => rfl
    | true => exact absurd (by rw [Nat.blt_eq] at hb; exact hb) h
   rw [h1, if_neg h]; rfl
 ·rw [if_neg e, beq_false e]; rfl
theorem St.get_lt {s : St} {i : Nat} : i < s.n → s.get i = some (asc s.slots i) := fun h => by
 have h1 : Nat.blt i s.n = true := by simpa [Nat.blt_eq] using h
 simp only [St.get, h1]; rfl
theorem St.get_ge {s : St} {i : Nat} (h : ¬ i < s.n) : s.get i = none := by
 have h1 : Nat.blt i s.n = false := by
  cases hb : Nat.blt i s.n with
  | false => rfl
  | true => exact absurd (by rw [Nat.blt_eq] at hb; exact hb) h
 simp only [St.get, h1]; rfl
theorem St.lt_get {s : St} {i : Nat} {x : TV} (h : s.get i = some x) : i < s.n := by
 rcases Nat.lt_or_ge i s.n with h1 | h1
 ·exact h1
 ·rw [St.get_ge (Nat.not_lt.2 h1)] at h; cases h
structure Kept (M : Nat → Prop) (w w' : World) : Prop where
 os : w'.os = w.os
 tape : w'.tape = w.tape
 output : w'.output = w.output
 size : w.heap.size ≤ w'.heap.size
 block : ∀ k, k < w.heap.size → ¬ M k → w'.heap[k]? = w.heap[k]?
 len : ∀ (k : Nat) (cells : Array Value) (el : TypeId) (fr : Nat × Nat), w.heap[k]? = some (.cells cells el fr) → ∃ cells', w'.heap[k]? = some (.cells cells' el fr) ∧ cells'.size = cells.size
theorem Kept.refl (M : Nat → Prop) (w : World) : Kept M w w := ⟨rfl, rfl, rfl, Nat.le_refl _, fun _ _ _ => rfl, fun _ c _ _ h => ⟨c, h, rfl⟩⟩
theorem Kept.trans {M M' M'' : Nat → Prop} {a b c : World} (h : Kept M a b) (k : Kept M' b c) (h1 : ∀ k, k < a.heap.size → M k → M'' k) (h2 : ∀ k, k < a.heap.size → M' k → M'' k) : Kept M'' a c :=
 ⟨k.os.trans h.os, k.tape.trans h.tape, k.output.trans h.output, Nat.le_trans h.size k.size, fun i hi hn =>
  (k.block i (Nat.lt_of_lt_of_le hi h.size) (fun hm => hn (h2 i hi hm))).trans (h.block i hi (fun hm => hn (h1 i hi hm))),
  fun i c el fr hi => by
   obtain ⟨c1, e1, z1⟩ := h.len i c el fr hi
   obtain ⟨c2, e2, z2⟩ := k.len i c1 el fr e1
   exact ⟨c2, e2, z2.trans z1⟩⟩
theorem Kept.mono {M M' : Nat → Prop} {a b : World} (h : Kept M a b) (h1 : ∀ k, k < a.heap.size → M k → M' k) : Kept M' a b :=
 ⟨h.os, h.tape, h.output, h.size, fun i hi hn => h.block i hi (fun hm => hn (h1 i hi hm)), h.len⟩
theorem mem_of_block {w w' : World} {b : Nat} (h : w'.heap[b]? = w.heap[b]?) (o : Nat) : mem w' b o = mem w b o := by
 unfold mem World.cell?; simp only [h]
theorem mem_lt {w : World} {b o : Nat} {v : Value} (h : mem w b o = some v) : b < w.heap.size := by
 unfold mem World.cell? at h
 rcases Nat.lt_or_ge b w.heap.size with hb | hb
 ·exact hb
 ·simp [Array.getElem?_eq_none hb] at h
theorem Kept.drew (M : Nat → Prop) (w : World) (n : Nat) : Kept M w { w with drawn := n } := ⟨rfl, rfl, rfl, Nat.le_refl _, fun _ _ _ => rfl, fun _ c _ _ h => ⟨c, h, rfl⟩⟩
theorem Kept.alloc (M : Nat → Prop) (w : World) (o : Obj) : Kept M w { w with heap := w.heap.push o } :=
 ⟨rfl, rfl, rfl, by simp, fun k hk _ => by simp [Array.getElem?_push, Nat.ne_of_lt hk], fun k c el fr hk => ⟨c, by
  have hlt : k < w.heap.size := by
   rcases Nat.lt_or_ge k w.heap.size with h | h
   ·exact h
   ·rw [Array.getElem?_eq_none h] at hk; cases hk
  simpa [Array.getElem?_push, Nat.ne_of_lt hlt] using hk, rfl⟩⟩
structure ORep (F : Nat → Prop) (w : World) (ρ : RK → Option RI) (ri : RI) (ob : OB) : Prop where
 n : ri.n = ob.xs.length
 sz : ri.sz = ob.t.size
 le : ri.n ≤ ri.c
 pure : ob.t.hold = true
 none : ri.A = none → ri.c = 0
 raw : ri.c = 0 ∨ ri.raw = ri.A.map adr
 block : ∀ p, ri.A = some p → ∃ cells el, w.heap[p.1]? = some (.cells cells el (0, 0)) ∧ p.2 + ri.c * ri.sz ≤ cells.size
 cells : ∀ p, ri.A = some p → ∀ (i : Nat) x, ob.xs[i]? = some x → ∃ ds, CellsAt (mem w) p.1 (p.2 + i * ri.sz) ds ∧ Rep F (mem w) ρ ob.t x ds
 sub : ri.sub = []
structure BRep (F : Nat → Prop) (w : World) (ρ : RK → Option RI) (ri : RI) (x : TV) : Prop where
 bare : ri.sub = [] ∧ ri.c = 1
 cell : x.t.cell = true
 ex : ∃ p ds cells el, ri.A = some p ∧ w.heap[p.1]? = some (.cells cells el (0, 0)) ∧ p.2 + x.t.size ≤ cells.size ∧ CellsAt (mem w) p.1 p.2 ds ∧ Rep F (mem w) ρ x.t x.v ds
theorem BRep.sub {F : Nat → Prop} {w : World} {ρ : RK → Option RI} {ri : RI} {x : TV} (h : BRep F w ρ ri x) : ri.sub = [] := h.bare.1
structure SRep (w : World) (ri : RI) (l : List UInt8) (q : Nat) : Prop where
 bare : ri.sub = [] ∧ ri.c = 1
 ex : ∃ b, ri.A = some (b, 0) ∧ w.heap[b]? = some (.stringIter ⟨l.toArray⟩ q)
def EntR (F : Nat → Prop) (m : Nat → Nat → Option Value) (ρ : RK → Option RI) (k : IntKind) (t : Ty) (p : Int × t.den) (e : MapEntry) : Prop := e.key = .int k p.1 ∧ ∃ ds, OneV t e.val ds ∧ Rep F m ρ t p.2 ds
def EntsR (F : Nat → Prop) (m : Nat → Nat → Option Value) (ρ : RK → Option RI) (k : IntKind) (t : Ty) : List (Int × t.den) → List MapEntry → Prop
 | [], es => es = []
 | p :: l, es => ∃ e r, es = e :: r ∧ EntR F m ρ k t p e ∧ EntsR F m ρ k t l r
theorem EntR.mono {F F' : Nat → Prop} {m m' : Nat → Nat → Option Value} {ρ ρ' : RK → Option RI} {k : IntKind} {t : Ty} {p : Int × t.den} {e : MapEntry} (h : EntR F m ρ k t p e) (hr : ∀ v cs, Rep F m ρ t v cs → Rep F' m' ρ' t v cs) : EntR F' m' ρ' k t p e :=
 ⟨h.1, h.2.elim fun ds g => ⟨ds, g.1, hr _ _ g.2⟩⟩
theorem EntsR.mono {F F' : Nat → Prop} {m m' : Nat → Nat → Option Value} {ρ ρ' : RK → Option RI} {k : IntKind} {t : Ty} (hr : ∀ v cs, Rep F m ρ t v cs → Rep F' m' ρ' t v cs) : ∀ {l : List (Int × t.den)} {es : List MapEntry}, EntsR F m ρ k t l es → EntsR F' m' ρ' k t l es
 | [], _, h => h
 | _ :: _, _, ⟨e, r, h1, h2, h3⟩ => ⟨e, r, h1, h2.mono hr, h3.mono hr⟩
theorem EntsR.length {F : Nat → Prop} {m : Nat → Nat → Option Value} {ρ : RK → Option RI} {k : IntKind} {t : Ty} : ∀ {l : List (Int × t.den)} {es : List MapEntry}, EntsR F m ρ k t l es → es.length = l.length
 | [], _, h => by cases h; rfl
 | _ :: _, _, ⟨e, r, h1, h2, h3⟩ => by subst h1; simp [h3.length]
theorem EntsR.get {F : Nat → Prop} {m : Nat → Nat → Option Value} {ρ : RK → Option RI} {k : IntKind} {t : Ty} : ∀ {l : List (Int × t.den)} {es : List MapEntry}, EntsR F m ρ k t l es → ∀ (i : Nat) p, l[i]? = some p → ∃ e, es[i]? = some e ∧ EntR F m ρ k t p e
 | [], _, h, i, p, hi => by simp at hi
 | q :: l, _, ⟨e, r, h1, h2, h3⟩, 0, p, hi => by subst h1; simp only [List.getElem?_cons_zero, Option.some.injEq] at hi; subst hi; exact ⟨e, rfl, h2⟩
 | q :: l, _, ⟨e, r, h1, h2, h3⟩, i + 1, p, hi => by subst h1; simp only [List.getElem?_cons_succ] at hi ⊢; exact h3.get i p hi
structure MRep (F : Nat → Prop) (w : World) (ρ : RK → Option RI) (ri : RI) (k : IntKind) (t : Ty) (l : List (Int × t.den)) : Prop where
 bare : ri.sub = [] ∧ ri.c = 1
 hold : t.hold = true
 ex : ∃ b es clock, ri.A = some (b, 0) ∧ w.heap[b]? = some (.map es clock) ∧ EntsR F (mem w) ρ k t l es.toList ∧ (∀ e ∈ es.toList, e.born < clock) ∧ (es.toList.map (·.born)).Nodup
structure IRep (F : Nat → Prop) (w : World) (ρ : RK → Option RI) (ri : RI) (k : IntKind) (t : Ty) (l : List (Int × t.den)) (c : Option (Int × t.den)) : Prop where
 one : ri.c = 1
 hold : t.hold = true
 ex : ∃ bi bm es clock seen les, ri.A = some (bi, 0) ∧ ri.sub = [bm] ∧ bi ≠ bm ∧ w.heap[bi]? = some (.mapIter (some bm) clock seen clock) ∧ w.heap[bm]? = some (.map es clock) ∧
  ((∀ e ∈ es.toList, e.born < clock) ∧ (es.toList.map (·.born)).Nodup) ∧ (les : List MapEntry).Perm (es.toList.filter fun e => !seen.contains e.born) ∧ EntsR F (mem w) ρ k t l les ∧
  ∀ p, c = some p → ∃ e ∈ es.toList, seen.back? = some e.born ∧ EntR F (mem w) ρ k t p e
def CRep (F : Nat → Prop) (w : World) (ρ : RK → Option RI) (ri : RI) : Cont → Prop
 | .arr ob => ORep F w ρ ri ob
 | .box x => BRep F w ρ ri x
 | .it l q => SRep w ri l q
 | .mp k t l => MRep F w ρ ri k t l
 | .mit k t l c => IRep F w ρ ri k t l c
theorem blk_nosub {ri : RI} {b : Nat} (hs : ri.sub = []) (h : ri.blk b) : ∃ p, ri.A = some p ∧ p.1 = b := by
 rcases h with h | h
 ·exact h
 ·rw [hs] at h; cases h
theorem heap_lt {w : World} {b : Nat} {o : Obj} (h : w.heap[b]? = some o) : b < w.heap.size := by
 rcases Nat.lt_or_ge b w.heap.size with h4 | h4
 ·exact h4
 ·simp [Array.getElem?_eq_none h4] at h
theorem CRep.blkLt {F : Nat → Prop} {w : World} {ρ : RK → Option RI} {ri : RI} {c : Cont} (h : CRep F w ρ ri c) {b : Nat} (hb : ri.blk b) : b < w.heap.size := by
 cases c with
 | arr ob =>
  obtain ⟨p, hp, rfl⟩ := blk_nosub (ORep.sub h) hb
  obtain ⟨cells, el, h3, _⟩ := ORep.block h p hp
  exact heap_lt h3
 | box x =>
  obtain ⟨p, hp, rfl⟩ := blk_nosub (BRep.sub h) hb
  obtain ⟨p', ds, cells, el, h1, h3, _⟩ := BRep.ex h
  rw [hp] at h1; cases h1
  exact heap_lt h3
 | it l q =>
  obtain ⟨p, hp, rfl⟩ := blk_nosub (SRep.bare h).1 hb
  obtain ⟨b, h1, h3⟩ := SRep.ex h
  rw [hp] at h1; cases h1
  exact heap_lt h3
 | mp k t l =>
  obtain ⟨p, hp, rfl⟩ := blk_nosub (MRep.bare h).1 hb
  obtain ⟨b, es, clock, h1, h3, _⟩ := MRep.ex h
  rw [hp] at h1; cases h1
  exact heap_lt h3
 | mit k t l c =>
  obtain ⟨bi, bm, es, clock, seen, les, h1, h2, _, h3, h4, _⟩ := IRep.ex h
  rcases hb with ⟨p, hp, rfl⟩ | hb
  ·rw [hp] at h1; cases h1
   exact heap_lt h3
  ·rw [h2, List.mem_singleton] at hb
   subst hb
   exact heap_lt h4
theorem ORep.mono {F F' : Nat → Prop} {w : World} {ρ ρ' : RK → Option RI} {ri : RI} {ob : OB} (h : ORep F w ρ ri ob) (hF : ∀ b, F b → F' b) (hρ : ∀ q x, ρ q = some x → ρ' q = some x) : ORep F' w ρ' ri ob :=
 ⟨h.n, h.sz, h.le, h.pure, h.none, h.raw, h.block, fun p hp i x hi => by
  obtain ⟨ds, h1, h2⟩ := h.cells p hp i x hi
  exact ⟨ds, h1, Rep.mono hF (fun _ _ _ _ h => h) hρ _ _ _ h2⟩, h.sub⟩
theorem BRep.mono {F F' : Nat → Prop} {w : World} {ρ ρ' : RK → Option RI} {ri : RI} {x : TV} (h : BRep F w ρ ri x) (hF : ∀ b, F b → F' b) (hρ : ∀ q x, ρ q = some x → ρ' q = some x) : BRep F' w ρ' ri x :=
 ⟨h.bare, h.cell, by
  obtain ⟨p, ds, cells, el, h1, h2, h3, h4, h5⟩ := h.ex
  exact ⟨p, ds, cells, el, h1, h2, h3, h4, Rep.mono hF (fun _ _ _ _ h => h) hρ _ _ _ h5⟩⟩
theorem MRep.reps {F F' : Nat → Prop} {w : World} {ρ ρ' : RK → Option RI} {ri : RI} {k : IntKind} {t : Ty} {l : List (Int × t.den)} (h : MRep F w ρ ri k t l) (hr : ∀ v cs, Rep F (mem w) ρ t v cs → Rep F' (mem w) ρ' t v cs) : MRep F' w ρ' ri k t l :=
 ⟨h.bare, h.hold, by
  obtain ⟨b, es, clock, h1, h2, h3, h4⟩ := h.ex
  exact ⟨b, es, clock, h1, h2, h3.mono hr, h4⟩⟩
theorem IRep.reps {F F' : Nat → Prop} {w : World} {ρ ρ' : RK → Option RI} {ri : RI} {k : IntKind} {t : Ty} {l : List (Int × t.den)} {c : Option (Int × t.den)} (h : IRep F w ρ ri k t l c) (hr : ∀ v cs, Rep F (mem w) ρ t v cs → Rep F' (mem w) ρ' t v cs) : IRep F' w ρ' ri k t l c :=
 ⟨h.one, h.hold, by
  obtain ⟨bi, bm, es, clock, seen, les, h1, h2, h3, h4, h5, h6, h7, h8, h9⟩ := h.ex
  exact ⟨bi, bm, es, clock, seen, les, h1, h2, h3, h4, h5, h6, h7, h8.mono hr, fun p hp => (h9 p hp).elim fun e g => ⟨e, g.1, g.2.1, g.2.2.mono hr⟩⟩⟩
theorem CRep.mono {F F' : Nat → Prop} {w : World} {ρ ρ' : RK → Option RI} {ri : RI} {c : Cont} (h : CRep F w ρ ri c) (hF : ∀ b, F b → F' b) (hρ : ∀ q x, ρ q = some x → ρ' q = some x) : CRep F' w ρ' ri c := by
 cases c with
 | arr ob => exact ORep.mono h hF hρ
 | box x => exact BRep.mono h hF hρ
 | it l q => exact h
 | mp k t l => exact MRep.reps h fun v cs => Rep.mono hF (fun _ _ _ _ h => h) hρ t v cs
 | mit k t l c => exact IRep.reps h fun v cs => Rep.mono hF (fun _ _ _ _ h => h) hρ t v cs
theorem CRep.world {F : Nat → Prop} {w w' : World} {ρ : RK → Option RI} {ri : RI} {c : Cont} (h : CRep F w ρ ri c) (hF : ∀ b, F b → ∀ j v, mem w b j = some v → mem w' b j = some v)
  (hb : ∀ b, ri.blk b → w'.heap[b]? = w.heap[b]?) : CRep F w' ρ ri c := by
 cases c with
 | arr ob =>
  have h : ORep F w ρ ri ob := h
  refine ⟨h.n, h.sz, h.le, h.pure, h.none, h.raw, fun p hp => ?_, fun p hp i x hi => ?_, h.sub⟩
  ·obtain ⟨cells, el, h3, h4⟩ := h.block p hp
   exact ⟨cells, el, (hb _ (RI.blkA hp)).trans h3, h4⟩
  ·obtain ⟨ds, h3, h4⟩ := h.cells p hp i x hi
   exact ⟨ds, h3.mono (fun j v hv => by rw [mem_of_block (hb _ (RI.blkA hp))]; exact hv), Rep.mono (fun _ h => h) hF (fun _ _ h => h) _ _ _ h4⟩
 | box x =>
  have h : BRep F w ρ ri x := h
  obtain ⟨p, ds, cells, el, h1, h2, h3, h4, h5⟩ := h.ex
  exact ⟨h.bare, h.cell, p, ds, cells, el, h1, (hb _ (RI.blkA h1)).trans h2, h3, h4.mono (fun j v hv => by rw [mem_of_block (hb _ (RI.blkA h1))]; exact hv), Rep.mono (fun _ h => h) hF (fun _ _ h => h) _ _ _ h5⟩
 | it l q =>
  have h : SRep w ri l q := h
  obtain ⟨b, h1, h2⟩ := h.ex
  exact ⟨h.bare, b, h1, (hb _ (RI.blkA h1)).trans h2⟩
 | mp k t l =>
  have h : MRep F w ρ ri k t l := h
  obtain ⟨b, es, clock, h1, h2, h3, h4⟩ := h.ex
  exact ⟨h.bare, h.hold, b, es, clock, h1, (hb _ (RI.blkA h1)).trans h2, h3.mono fun v cs => Rep.mono (fun _ h => h) hF (fun _ _ h => h) t v cs, h4⟩
 | mit k t l c =>
  have h : IRep F w ρ ri k t l c := h
  obtain ⟨bi, bm, es, clock, seen, les, h1, h2, h3, h4, h5, h6, h7, h8, h9⟩ := h.ex
  have hr : ∀ v cs, Rep F (mem w) ρ t v cs → Rep F (mem w') ρ t v cs := fun v cs => Rep.mono (fun _ h => h) hF (fun _ _ h => h) t v cs
  exact ⟨h.one, h.hold, bi, bm, es, clock, seen, les, h1, h2, h3, (hb _ (RI.blkA h1)).trans h4, (hb _ (.inr (by rw [h2]; simp))).trans h5, h6, h7, h8.mono hr, fun p hp => (h9 p hp).elim fun e g => ⟨e, g.1, g.2.1, g.2.2.mono hr⟩⟩
structure Bs where
 F : Nat → Prop
 ρ : RK → Option RI
instance : CoeFun Bs fun _ => Nat → Prop := ⟨Bs.F⟩
structure RelAt (F0 : Bs) (M : Nat → Prop) (W0 : World) (F : Nat → Prop) (ρ : RK → Option RI) (s : St) (a : Act) (w : World) : Prop where
 defers : a.defers = []
 slot : ∀ (i : Nat) x, s.get i = some x → ∃ val, a.tmps[i]? = some val ∧ RepV F (mem w) ρ x.t x.v val
 cobj : ∀ (r : RK) c, s.cont r = some c → ∃ ri, ρ r = some ri ∧ CRep F w ρ ri c
 csep : ∀ r r' c c' ri ri' b, s.cont r = some c → s.cont r' = some c' → ρ r = some ri → ρ r' = some ri' → ri.blk b → ri'.blk b → r = r'
 cown : ∀ r c ri b, s.cont r = some c → ρ r = some ri → ri.blk b → ¬ F b ∧ (W0.heap.size ≤ b ∨ M b)
 fresh : ∀ r : Nat, ol s.objs r = none → ρ r = none
 pfresh : ∀ p n i : Nat, s.pln p = some n → n ≤ i → ρ (.pl p i) = none
 pfor : ∀ p i : Nat, s.pln p = none → ρ (.pl p i) = F0.ρ (.pl p i)
 lt : ∀ b, F b → b < w.heap.size
 base : ∀ b, F0 b → F b
 frm : ∀ b, F b → F0 b ∨ W0.heap.size ≤ b ∨ M b
 kept : Kept M W0 w
variable {F0 : Bs} {M F : Nat → Prop} {W0 w w' : World} {ρ : RK → Option RI} {s : St} {a : Act}
theorem RelAt.obj (h : RelAt F0 M W0 F ρ s a w) (r : RK) (ob : OB) (hr : s.obj r = some ob) : ∃ ri, ρ r = some ri ∧ ORep F w ρ ri ob := h.cobj r _ (St.obj_cont.1 hr)
theorem RelAt.box (h : RelAt F0 M W0 F ρ s a w) (r : RK) (x : TV) (hr : s.bx r = some x) : ∃ ri, ρ r = some ri ∧ BRep F w ρ ri x := h.cobj r _ (St.bx_cont.1 hr)
theorem RelAt.sep (h : RelAt F0 M W0 F ρ s a w) (r r' : RK) (ob ob' : OB) (ri ri' : RI) (p p' : Nat × Nat) (hr : s.obj r = some ob) (hr' : s.obj r' = some ob') (h1 : ρ r = some ri) (h2 : ρ r' = some ri') (hp : ri.A = some p) (hp' : ri'.A = some p') (he : p.1 = p'.1) : r = r' :=
 h.csep r r' _ _ ri ri' p.1 (St.obj_cont.1 hr) (St.obj_cont.1 hr') h1 h2 (RI.blkA hp) (he ▸ RI.blkA hp')
theorem RelAt.own (h : RelAt F0 M W0 F ρ s a w) (r : RK) (ob : OB) (ri : RI) (p : Nat × Nat) (hr : s.obj r = some ob) (h1 : ρ r = some ri) (hp : ri.A = some p) : ¬ F p.1 ∧ (W0.heap.size ≤ p.1 ∨ M p.1) :=
 h.cown r _ ri p.1 (St.obj_cont.1 hr) h1 (RI.blkA hp)
theorem RelAt.put (h : RelAt F0 M W0 F ρ s a w) (d : Option Nat) (x : TV) (val : Value) (hx : RepV F (mem w) ρ x.t x.v val) : RelAt F0 M W0 F ρ (s.put d x) (a.put d val) w := by
 cases d with
 | none => exact h
 | some d =>
  refine ⟨h.defers, fun i y hy => ?_, h.cobj, h.csep, h.cown, h.fresh, h.pfresh, h.pfor, h.lt, h.base, h.frm, h.kept⟩
  rw [St.get_put] at hy
  simp only [Act.put, Array.getElem?_setIfInBounds]
  split at hy
  ·rename_i e
   subst e
   split at hy
   ·cases hy
    rename_i hd
    obtain ⟨v0, h0, _⟩ := h.slot d _ (St.get_lt hd)
    have : d < a.tmps.size := by
     rcases Nat.lt_or_ge d a.tmps.size with h1 | h1
     ·exact h1
     ·simp [Array.getElem?_eq_none h1] at h0
    exact ⟨val, by simp [this], hx⟩
   ·cases hy
  ·rename_i e
   rw [if_neg e]
   exact h.slot i y hy
theorem ol_setObj {s : St} {r q : Nat} {o : ObS} : ol (s.setObj r o).objs q = if r = q then some o else ol s.objs q := ol_ou _ _ _ _
theorem RK.reg_ne {r q : Nat} (h : r ≠ q) : (r : RK) ≠ q := fun e => h (RK.reg.inj e)
theorem St.cont_setObj_ne' {s : St} {r : Nat} {q : RK} {o : ObS} (hr : (r : RK) ≠ q) : (s.setObj r o).cont q = s.cont q := by rw [St.cont_setObj, if_neg hr]
theorem St.cont_setObj_ne {s : St} {r q : Nat} {o : ObS} (hr : r ≠ q) : (s.setObj r o).cont q = s.cont q := St.cont_setObj_ne' (RK.reg_ne hr)
theorem St.cont_setObj_same {s : St} {r : Nat} {o : ObS} : (s.setObj r o).cont r = o.cont := by rw [St.cont_setObj, if_pos rfl]
theorem RelAt.less (h : RelAt F0 M W0 F ρ s a w) {s' : St} (hg : ∀ i, s'.get i = s.get i) (hc : ∀ r c, s'.cont r = some c → s.cont r = some c) (hf : ∀ r, ol s'.objs r = none → ol s.objs r = none) (hp : ∀ p, s'.pln p = s.pln p) : RelAt F0 M W0 F ρ s' a w :=
 ⟨h.defers, fun i x hx => h.slot i x (by rw [← hg]; exact hx), fun r c hr => h.cobj r c (hc _ _ hr), fun r r' c c' ri ri' b hr hr' => h.csep r r' c c' ri ri' b (hc _ _ hr) (hc _ _ hr'),
  fun r c ri b hr => h.cown r c ri b (hc _ _ hr), fun r hr => h.fresh r (hf r hr), fun p n i hn hi => h.pfresh p n i (by rw [← hp]; exact hn) hi, fun p i hn => h.pfor p i (by rw [← hp]; exact hn), h.lt, h.base, h.frm, h.kept⟩
theorem RelAt.kill (h : RelAt F0 M W0 F ρ s a w) (r : Nat) : RelAt F0 M W0 F ρ (s.setObj r .dead) a w :=
 h.less (fun _ => rfl) (fun q c hq => by
  rw [St.cont_setObj] at hq
  split at hq
  ·cases hq
  ·exact hq) (fun q hq => by
  rw [ol_setObj] at hq
  split at hq
  ·cases hq
  ·exact hq) (fun _ => rfl)
theorem RelAt.world (h : RelAt F0 M W0 F ρ s a w) (M' : Nat → Prop) (hk : Kept M' w w')
  (hM : ∀ b, M' b → ¬ F b ∧ (∀ r c ri, s.cont r = some c → ρ r = some ri → ¬ ri.blk b) ∧ (b < W0.heap.size → M b)) : RelAt F0 M W0 F ρ s a w' := by
 have hF : ∀ b, F b → ∀ j v, mem w b j = some v → mem w' b j = some v := fun b hb j v hv => by
  rw [mem_of_block (hk.block b (h.lt b hb) (fun hm => (hM b hm).1 hb))]; exact hv
 refine ⟨h.defers, fun i x hi => ?_, fun r c hr => ?_, h.csep, h.cown, h.fresh, h.pfresh, h.pfor, fun b hb => Nat.lt_of_lt_of_le (h.lt b hb) hk.size, h.base, h.frm, ?_⟩
 ·obtain ⟨val, h1, h2⟩ := h.slot i x hi
  exact ⟨val, h1, RepV.mono (fun _ h => h) hF (fun _ _ h => h) _ _ _ h2⟩
 ·obtain ⟨ri, h1, h2⟩ := h.cobj r c hr
  exact ⟨ri, h1, h2.world hF fun b hb => hk.block _ (h2.blkLt hb) (fun hm => (hM _ hm).2.1 r c ri hr h1 hb)⟩
 ·exact h.kept.trans hk (fun _ _ hm => hm) (fun k hk hm => (hM k hm).2.2 hk)
theorem RelAt.grow (h : RelAt F0 M W0 F ρ s a w) (hk : Kept (fun _ => False) w w') : RelAt F0 M W0 F ρ s a w' :=
 h.world _ hk (fun _ h => h.elim)
theorem RelAt.live (h : RelAt F0 M W0 F ρ s a w) (r : Nat) (ri : RI) (c : Cont) (hl : s.cont r = none) (hρ : ρ r = some ri) (ho : CRep F w ρ ri c)
  (hs : ∀ b, ri.blk b → ¬ F b ∧ (W0.heap.size ≤ b ∨ M b) ∧ ∀ q c' ri', s.cont q = some c' → ρ q = some ri' → ¬ ri'.blk b) :
  RelAt F0 M W0 F ρ (s.setObj r (.live c)) a w := by
 have key : ∀ q c', (s.setObj r (.live c)).cont q = some c' → (q = r ∧ c' = c) ∨ (q ≠ r ∧ s.cont q = some c') := fun q c' hq => by
  rw [St.cont_setObj] at hq
  split at hq
  ·rename_i e; subst e; cases hq; exact .inl ⟨rfl, rfl⟩
  ·rename_i e; exact .inr ⟨Ne.symm e, hq⟩
 refine ⟨h.defers, h.slot, fun q c' hq => ?_, fun q q' c1 c2 ri1 ri2 b hq hq' h1 h2 hb hb' => ?_, fun q c' ri' b hq h1 hb => ?_, fun q hq => ?_, h.pfresh, h.pfor, h.lt, h.base, h.frm, h.kept⟩
 ·rcases key q c' hq with ⟨rfl, rfl⟩ | ⟨_, hq⟩
  ·exact ⟨ri, hρ, ho⟩
  ·exact h.cobj q c' hq
 ·rcases key q c1 hq with ⟨e1, _⟩ | ⟨hn, kq⟩ <;> rcases key q' c2 hq' with ⟨e2, _⟩ | ⟨hn', kq'⟩
  ·rw [e1, e2]
  ·subst e1; rw [hρ] at h1; cases h1
   exact absurd hb' ((hs b hb).2.2 q' c2 ri2 kq' h2)
  ·subst e2; rw [hρ] at h2; cases h2
   exact absurd hb ((hs b hb').2.2 q c1 ri1 kq h1)
  ·exact h.csep q q' c1 c2 ri1 ri2 b kq kq' h1 h2 hb hb'
 ·rcases key q c' hq with ⟨rfl, rfl⟩ | ⟨hn, hq⟩
  ·rw [hρ] at h1; cases h1
   exact ⟨(hs b hb).1, (hs b hb).2.1⟩
  ·exact h.cown q c' ri' b hq h1 hb
 ·rw [ol_setObj] at hq
  split at hq
  ·cases hq
  ·exact h.fresh q hq
def ext (ρ : RK → Option RI) (r : RK) (ri : RI) : RK → Option RI := fun q => if q = r then some ri else ρ q
theorem ext_le {r : RK} {ri : RI} (h0 : ρ r = none) : ∀ q x, ρ q = some x → ext ρ r ri q = some x := fun q x hq => by
 unfold ext
 split
 ·rename_i e; subst e; rw [h0] at hq; cases hq
 ·exact hq
theorem ext_same {r : RK} {ri : RI} : ext ρ r ri r = some ri := by simp [ext]
theorem ext_ne {r q : RK} {ri : RI} (h : q ≠ r) : ext ρ r ri q = ρ q := by simp [ext, h]
theorem RelAt.ext (h : RelAt F0 M W0 F ρ s a w) (r : Nat) (ri : RI) (hf : ol s.objs r = none) : RelAt F0 M W0 F (ext ρ r ri) (s.setObj r .dead) a w := by
 have h0 : ρ r = none := h.fresh r hf
 have hle := ext_le (ri := ri) h0
 have h' := h.kill r
 have key : ∀ q c', (s.setObj r .dead).cont q = some c' → q ≠ r := fun q c' hq e => by
  subst e; rw [St.cont_setObj_same] at hq; cases hq
 refine ⟨h'.defers, fun i x hi => ?_, fun q c hq => ?_, fun q q' c1 c2 ri1 ri2 b hq hq' h1 h2 => ?_, fun q c ri' b hq h1 => ?_, fun q hq => ?_, fun p n i hn hi => ?_, fun p i hn => ?_, h'.lt, h'.base, h'.frm, h'.kept⟩
 ·obtain ⟨val, h1, h2⟩ := h'.slot i x hi
  exact ⟨val, h1, RepV.mono (fun _ h => h) (fun _ _ _ _ h => h) hle _ _ _ h2⟩
 ·obtain ⟨ri', h1, h2⟩ := h'.cobj q c hq
  exact ⟨ri', hle _ _ h1, h2.mono (fun _ h => h) hle⟩
 ·rw [ext_ne (key q _ hq)] at h1
  rw [ext_ne (key q' _ hq')] at h2
  exact h'.csep q q' c1 c2 ri1 ri2 b hq hq' h1 h2
 ·rw [ext_ne (key q _ hq)] at h1
  exact h'.cown q c ri' b hq h1
 ·have hqr : q ≠ r := fun e => by
   subst e
   rw [ol_setObj, if_pos rfl] at hq; cases hq
  rw [ext_ne (RK.reg_ne hqr)]
  exact h'.fresh q hq
 ·rw [ext_ne (fun e => by cases e)]
  exact h'.pfresh p n i hn hi
 ·rw [ext_ne (fun e => by cases e)]
  exact h'.pfor p i hn
theorem RelAt.widen (h : RelAt F0 M W0 F ρ s a w) (G : Nat → Prop) (hG : ∀ b, G b → b < w.heap.size ∧ (∀ r c ri, s.cont r = some c → ρ r = some ri → ¬ ri.blk b) ∧ (W0.heap.size ≤ b ∨ M b)) :
  RelAt F0 M W0 (fun k => F k ∨ G k) ρ s a w := by
 refine ⟨h.defers, fun i x hi => ?_, fun r c hr => ?_, h.csep, fun r c ri b hr h1 hb => ?_, h.fresh, h.pfresh, h.pfor, fun k hk => ?_, fun k hk => .inl (h.base k hk), fun k hk => ?_, h.kept⟩
 ·obtain ⟨val, h1, h2⟩ := h.slot i x hi
  exact ⟨val, h1, RepV.mono (fun _ h => .inl h) (fun _ _ _ _ h => h) (fun _ _ h => h) _ _ _ h2⟩
 ·obtain ⟨ri, h1, h2⟩ := h.cobj r c hr
  exact ⟨ri, h1, h2.mono (fun _ h => .inl h) (fun _ _ h => h)⟩
 ·obtain ⟨h2, h3⟩ := h.cown r c ri b hr h1 hb
  exact ⟨fun hk => hk.elim h2 (fun e => (hG b e).2.1 r c ri hr h1 hb), h3⟩
 ·exact hk.elim (h.lt k) (fun e => (hG k e).1)
 ·exact hk.elim (h.frm k) (fun e => .inr (hG k e).2.2)
theorem RelAt.frz (h : RelAt F0 M W0 F ρ s a w) (b : Nat) (hb : b < w.heap.size) (hs : ∀ r c ri, s.cont r = some c → ρ r = some ri → ¬ ri.blk b) (hf : W0.heap.size ≤ b ∨ M b) :
  RelAt F0 M W0 (fun k => F k ∨ k = b) ρ s a w :=
 h.widen (fun k => k = b) fun k e => by subst e; exact ⟨hb, hs, hf⟩
def St.room (s : St) (n : Nat) : St := ⟨s.n, s.slots, s.nx + n, s.objs, s.pls⟩
theorem RelAt.room (h : RelAt F0 M W0 F ρ s a w) (n : Nat) : RelAt F0 M W0 F ρ (s.room n) a w := h.less (fun _ => rfl) (fun _ _ h => h) (fun _ h => h) (fun _ => rfl)
structure Sets (s : St) (k : RK) (c : Option Cont) (s' : St) : Prop where
 get : ∀ i, s'.get i = s.get i
 cont : ∀ q, s'.cont q = if q = k then c else s.cont q
 fresh : ∀ r, ol s'.objs r = none → ol s.objs r = none
 pln : ∀ p, s'.pln p = s.pln p
theorem sets_reg {r : Nat} {o : ObS} : Sets s r o.cont (s.setObj r o) :=
 ⟨fun _ => rfl, fun q => by
  rw [St.cont_setObj]
  by_cases e : q = r
  ·subst e; simp
  ·rw [if_neg e, if_neg (Ne.symm e)], fun q hq => by
  rw [ol_setObj] at hq
  split at hq
  ·cases hq
  ·exact hq, fun _ => rfl⟩
theorem RelAt.dead (h : RelAt F0 M W0 F ρ s a w) {k : RK} {s' : St} (hs : Sets s k none s') : RelAt F0 M W0 F ρ s' a w :=
 h.less hs.get (fun q c hq => by
  rw [hs.cont] at hq
  split at hq
  ·cases hq
  ·exact hq) hs.fresh hs.pln
theorem RelAt.alive (h : RelAt F0 M W0 F ρ s a w) {k : RK} {s' : St} (ri : RI) (c : Cont) (hst : Sets s k (some c) s') (hl : s.cont k = none) (hρ : ρ k = some ri) (ho : CRep F w ρ ri c)
  (hs : ∀ b, ri.blk b → ¬ F b ∧ (W0.heap.size ≤ b ∨ M b) ∧ ∀ q c' ri', s.cont q = some c' → ρ q = some ri' → ¬ ri'.blk b) :
  RelAt F0 M W0 F ρ s' a w := by
 have key : ∀ q c', s'.cont q = some c' → (q = k ∧ c' = c) ∨ (q ≠ k ∧ s.cont q = some c') := fun q c' hq => by
  rw [hst.cont] at hq
  split at hq
  ·rename_i e; subst e; cases hq; exact .inl ⟨rfl, rfl⟩
  ·rename_i e; exact .inr ⟨e, hq⟩
 refine ⟨h.defers, fun i x hx => h.slot i x (by rw [← hst.get]; exact hx), fun q c' hq => ?_, fun q q' c1 c2 ri1 ri2 b hq hq' h1 h2 hb hb' => ?_, fun q c' ri' b hq h1 hb => ?_, fun q hq => h.fresh q (hst.fresh q hq), fun p n i hn => h.pfresh p n i (by rw [← hst.pln]; exact hn), fun p i hn => h.pfor p i (by rw [← hst.pln]; exact hn), h.lt, h.base, h.frm, h.kept⟩
 ·rcases key q c' hq with ⟨rfl, rfl⟩ | ⟨_, hq⟩
  ·exact ⟨ri, hρ, ho⟩
  ·exact h.cobj q c' hq
 ·rcases key q c1 hq with ⟨e1, _⟩ | ⟨hn, kq⟩ <;> rcases key q' c2 hq' with ⟨e2, _⟩ | ⟨hn', kq'⟩
  ·rw [e1, e2]
  ·subst e1; rw [hρ] at h1; cases h1
   exact absurd hb' ((hs b hb).2.2 q' c2 ri2 kq' h2)
  ·subst e2; rw [hρ] at h2; cases h2
   exact absurd hb ((hs b hb').2.2 q c1 ri1 kq h1)
  ·exact h.csep q q' c1 c2 ri1 ri2 b kq kq' h1 h2 hb hb'
 ·rcases key q c' hq with ⟨rfl, rfl⟩ | ⟨hn, hq⟩
  ·rw [hρ] at h1; cases h1
   exact ⟨(hs b hb).1, (hs b hb).2.1⟩
  ·exact h.cown q c' ri' b hq h1 hb
end Go.Vu
