/- Value semantics, part 1: types of values, how a value lies in memory, and that it stays so while memory grows. -/
import Derived.Tactics
import Derived.Laws.IdiomCopy
import Derived.Still
import Derived.StillTail
import Derived.KernelRfl
import Derived.Below
set_option linter.unusedVariables false
namespace Go.Vu
open Go
inductive Ty where
 | int (k : IntKind) | bool | str
 | st (t : Ty) | unit | pair (a b : Ty)
 | slice (t : Ty) | ptr (t : Ty) | rad (t : Ty) (o : Nat)
 | ow (r : Nat) | osl (r : Nat) | oad (r o : Nat)
 | clo (f : Nat) (c : Ty)
 | tup (t : Ty)
 | nils | nilp | any
 | pad (r o : Nat) | vec (t : Ty) | bx (t : Ty)
 | lost
 | sln (t : Ty)
 | iter | nxt (a b : Ty)
 | psl (p : Nat) | pdd (p o : Nat)
 | mpv (r : Nat) | fmp (k : IntKind) (t : Ty) | mpc (k : IntKind) (t : Ty) | mit (k : IntKind) (t : Ty)
 deriving DecidableEq
abbrev Ty.den : Ty → Type
 | .int _ => Int
 | .bool => Bool
 | .str => List UInt8
 | .st t => t.den
 | .unit => Unit
 | .pair a b => a.den × b.den
 | .slice t => List t.den
 | .ptr t => Option t.den
 | .rad t _ => t.den
 | .ow _ => Unit
 | .osl _ => Nat × Nat
 | .oad _ _ => Int
 | .clo _ c => c.den
 | .tup t => t.den
 | .nils => Unit
 | .nilp => Unit
 | .lost => Unit
 | .any => Unit
 | .pad _ _ => Unit
 | .psl _ => Option (Nat × Nat × Nat)
 | .pdd _ _ => Nat × Int
 | .vec t => List t.den
 | .bx t => t.den
 | .sln t => List t.den × Bool
 | .iter => List UInt8 × Nat
 | .nxt a b => Option (a.den × b.den)
 | .mpv _ => Unit
 | .fmp _ t => List (Int × t.den)
 | .mpc _ t => List (Int × t.den)
 | .mit _ t => List (Int × t.den) × Option (Int × t.den)
def Ty.size : Ty → Nat
 | .st t => t.size
 | .unit => 0
 | .pair a b => a.size + b.size
 | _ => 1
def Ty.flat : Ty → Bool
 | .int _ | .bool | .str | .unit | .nils | .nilp | .lost | .psl _ => true
 | .st t => t.flat
 | .pair a b => a.flat && b.flat
 | _ => false
def Ty.pure : Ty → Bool
 | .int _ | .bool | .str | .unit | .nils | .nilp | .lost => true
 | .st t | .slice t | .ptr t | .rad t _ | .clo _ t | .sln t | .fmp _ t => t.pure
 | .pair a b => a.pure && b.pure
 | _ => false
def Ty.hold : Ty → Bool
 | .st t => t.hold
 | .pair a b => a.hold && b.hold
 | .slice t => t.hold
 | .psl _ => true
 | t => t.pure
def Ty.cell : Ty → Bool
 | .any | .tup _ | .vec _ | .bx _ | .iter | .nxt _ _ | .mpc _ _ | .mit _ _ => false
 | .st t => t.cell
 | .pair a b => a.cell && b.cell
 | _ => true
inductive RK where
 | reg (n : Nat) | pl (p i : Nat)
 deriving DecidableEq
instance : Coe Nat RK := ⟨RK.reg⟩
def Ty.regs : Ty → List Nat
 | .ow r | .osl r | .oad r _ | .pad r _ | .mpv r => [r]
 | .st t | .clo _ t | .tup t => t.regs
 | .pair a b => a.regs ++ b.regs
 | _ => []
def Ty.pls : Ty → List Nat
 | .psl p | .pdd p _ => [p]
 | .st t | .vec t | .bx t | .slice t | .mpc _ t | .mit _ t => t.pls
 | .pair a b => a.pls ++ b.pls
 | _ => []
structure TV where
 t : Ty
 v : t.den
structure OB where
 t : Ty
 xs : List t.den
structure RI where
 A : Option (Nat × Nat)
 raw : Option Addr
 n : Nat
 c : Nat
 sz : Nat
 sub : List Nat := []
def RI.blk (ri : RI) (b : Nat) : Prop := (∃ p, ri.A = some p ∧ p.1 = b) ∨ b ∈ ri.sub
theorem RI.blkA {ri : RI} {p : Nat × Nat} (h : ri.A = some p) : ri.blk p.1 := .inl ⟨p, h, rfl⟩
def adr (p : Nat × Nat) : Addr := ⟨p.1, p.2, none⟩
def RI.val (r : RI) : Value := .slice r.raw r.n r.c
def mapCell (es : Array MapEntry) : Nat → Option Value
 | 0 => some (.tuple #[.int .i64 es.size])
 | o + 1 => some (match es[o]? with
  | some e => .tuple #[e.key, e.val]
  | none => .tuple #[])
def mem (w : World) (b o : Nat) : Option Value := match w.heap[b]? with
 | some (.map es _) => mapCell es o
 | _ => w.cell? ⟨b, o, none⟩
theorem mem_cell {w : World} {b o : Nat} {v : Value} (h : mem w b o = some v) (hv : v.oneCell' = true) : w.cell? ⟨b, o, none⟩ = some v := by
 unfold mem at h
 split at h
 ·exfalso
  cases o with
  | zero => simp only [mapCell, Option.some.injEq] at h; subst h; cases hv
  | succ o =>
   simp only [mapCell, Option.some.injEq] at h
   split at h <;> (subst h; cases hv)
 ·exact h
theorem mem_of_cell {w : World} {b o : Nat} {v : Value} (h : w.cell? ⟨b, o, none⟩ = some v) : mem w b o = some v := by
 unfold mem
 split
 ·rename_i es clock hb
  simp [World.cell?, hb] at h
 ·exact h
def CellsAt (m : Nat → Nat → Option Value) (b o : Nat) (cs : List Value) : Prop := ∀ (j : Nat) (v : Value), cs[j]? = some v → m b (o + j) = some v
def isSt : Ty → Bool
 | .st _ => true
 | _ => false
def OneV (t : Ty) (x : Value) (ds : List Value) : Prop := if isSt t then x = .agg ds.toArray else x.oneCell' = true ∧ ds = [x]
def Rep (F : Nat → Prop) (m : Nat → Nat → Option Value) (ρ : RK → Option RI) : (t : Ty) → t.den → List Value → Prop
 | .int k, n, cs => cs = [.int k n]
 | .bool, b, cs => cs = [.bool b]
 | .str, s, cs => cs = [.string ⟨s.toArray⟩]
 | .st t, v, cs => Rep F m ρ t v cs
 | .unit, _, cs => cs = []
 | .pair a b, v, cs => ∃ c1 c2, cs = c1 ++ c2 ∧ Rep F m ρ a v.1 c1 ∧ Rep F m ρ b v.2 c2
 | .slice t, xs, cs => ∃ A n c, cs = [.slice A n c] ∧ n = List.length xs ∧ n ≤ c ∧
   (n ≠ 0 → ∃ p, A = some (adr p) ∧ F p.1 ∧ ∀ (i : Nat) x, xs[i]? = some x → ∃ ds, CellsAt m p.1 (p.2 + i * t.size) ds ∧ Rep F m ρ t x ds)
 | .ptr t, v, cs => (v = none ∧ cs = [.pointer none]) ∨ ∃ x p ds, v = some x ∧ cs = [.pointer (some (adr p))] ∧ F p.1 ∧ CellsAt m p.1 p.2 ds ∧ Rep F m ρ t x ds
 | .rad t o, v, cs => ∃ (p : Nat × Nat) (ds : List Value), cs = [.pointer (some (adr (p.1, p.2 + o)))] ∧ F p.1 ∧ CellsAt m p.1 p.2 ds ∧ Rep F m ρ t v ds
 | .ow r, _, cs => ∃ ri, ρ r = some ri ∧ cs = [ri.val]
 | .osl r, v, cs => ∃ ri, ρ r = some ri ∧ ∃ A c, cs = [.slice A v.2 c] ∧ v.2 ≤ c ∧ v.1 + c ≤ ri.c ∧ v.1 + v.2 ≤ ri.n ∧ (c = 0 ∨ ∃ p, ri.A = some p ∧ A = some (adr (p.1, p.2 + v.1 * ri.sz))) ∧ ri.n ≤ v.1 + c
 | .oad r o, i, cs => ∃ ri p, ρ r = some ri ∧ ri.A = some p ∧ cs = [.pointer (some (adr (p.1, p.2 + Int.toNat i * ri.sz + o)))]
 | .clo f c, v, cs => ∃ ds, cs = [.func (.func f) #[] ds.toArray] ∧ Rep F m ρ c v ds
 | .tup _, _, _ => False
 | .nils, _, cs => cs = [.slice none 0 0]
 | .nilp, _, cs => cs = [.pointer none]
 | .lost, _, cs => ∃ c : Value, cs = [c] ∧ c.oneCell' = true
 | .any, _, cs => cs.length = 1
 | .psl p, v, cs => (v = none ∧ cs = [.slice none 0 0]) ∨ ∃ i u, v = some (i, u) ∧ ∃ ri, ρ (.pl p i) = some ri ∧ ∃ A c, cs = [.slice A u.2 c] ∧ u.2 ≤ c ∧ u.1 + c ≤ ri.c ∧ u.1 + u.2 ≤ ri.n ∧ (c = 0 ∨ ∃ p, ri.A = some p ∧ A = some (adr (p.1, p.2 + u.1 * ri.sz))) ∧ ri.n ≤ u.1 + c
 | .pdd q o, v, cs => ∃ ri p, ρ (.pl q v.1) = some ri ∧ ri.A = some p ∧ cs = [.pointer (some (adr (p.1, p.2 + Int.toNat v.2 * ri.sz + o)))]
 | .pad r o, _, cs => ∃ ri p, ρ r = some ri ∧ ri.A = some p ∧ cs = [.pointer (some (adr (p.1, p.2 + o)))]
 | .vec _, _, _ => False
 | .bx _, _, _ => False
 | .iter, _, _ => False
 | .nxt _ _, _, _ => False
 | .mpc _ _, _, _ => False
 | .mit _ _, _, _ => False
 | .mpv r, _, cs => ∃ ri p, ρ r = some ri ∧ ri.A = some p ∧ cs = [.map (some p.1)]
 | .fmp k t, l, cs => ∃ b, cs = [.map (some b)] ∧ F b ∧ (∀ o, ∃ x, m b o = some x) ∧ m b 0 = some (.tuple #[.int .i64 (List.length l)]) ∧
   ∀ (i : Nat) p, l[i]? = some p → ∃ x ds, m b (i + 1) = some (.tuple #[.int k p.1, x]) ∧ OneV t x ds ∧ Rep F m ρ t p.2 ds
 | .sln t, v, cs => ∃ A n c, cs = [.slice A n c] ∧ n = List.length v.1 ∧ n ≤ c ∧ A.isNone = v.2 ∧
   (n ≠ 0 → ∃ p, A = some (adr p) ∧ F p.1 ∧ ∀ (i : Nat) x, v.1[i]? = some x → ∃ ds, CellsAt m p.1 (p.2 + i * t.size) ds ∧ Rep F m ρ t x ds)
def RepV1 (F : Nat → Prop) (m : Nat → Nat → Option Value) (ρ : RK → Option RI) (t : Ty) (v : t.den) (x : Value) : Prop :=
 if isSt t then ∃ cs, x = .agg cs.toArray ∧ Rep F m ρ t v cs else x.oneCell' = true ∧ Rep F m ρ t v [x]
def RepVs (F : Nat → Prop) (m : Nat → Nat → Option Value) (ρ : RK → Option RI) : (t : Ty) → t.den → List Value → Prop
 | .unit, _, vs => vs = []
 | .pair a b, v, vs => ∃ x r, vs = x :: r ∧ RepV1 F m ρ a v.1 x ∧ RepVs F m ρ b v.2 r
 | .nxt a b, v, vs => match v with
  | none => vs = [.bool false]
  | some p => ∃ x y, vs = [.bool true, x, y] ∧ RepV1 F m ρ a p.1 x ∧ RepV1 F m ρ b p.2 y
 | _, _, _ => False
def RepV (F : Nat → Prop) (m : Nat → Nat → Option Value) (ρ : RK → Option RI) : (t : Ty) → t.den → Value → Prop
 | .any, _, _ => True
 | .tup t, v, x => ∃ vs, x = .tuple vs.toArray ∧ RepVs F m ρ t v vs
 | t, v, x => RepV1 F m ρ t v x
theorem CellsAt.mono {m m' : Nat → Nat → Option Value} {b o : Nat} {cs : List Value} (h : CellsAt m b o cs) (hm : ∀ j v, m b j = some v → m' b j = some v) : CellsAt m' b o cs :=
 fun j v hj => hm _ _ (h j v hj)
theorem Rep.mono {F F' : Nat → Prop} {m m' : Nat → Nat → Option Value} {ρ ρ' : RK → Option RI} (hF : ∀ b, F b → F' b)
  (hm : ∀ b, F b → ∀ j v, m b j = some v → m' b j = some v) (hρ : ∀ r x, ρ r = some x → ρ' r = some x) :
  ∀ (t : Ty) (v : t.den) (cs : List Value), Rep F m ρ t v cs → Rep F' m' ρ' t v cs
 | .int _, _, _, h => h
 | .bool, _, _, h => h
 | .str, _, _, h => h
 | .st t, v, cs, h => Rep.mono hF hm hρ t v cs h
 | .unit, _, _, h => h
 | .pair a b, v, cs, ⟨c1, c2, e, h1, h2⟩ => ⟨c1, c2, e, Rep.mono hF hm hρ a _ _ h1, Rep.mono hF hm hρ b _ _ h2⟩
 | .slice t, v, cs, ⟨A, n, c, e, hn, hc, h⟩ => ⟨A, n, c, e, hn, hc, fun h0 => by
   obtain ⟨p, e, hp, h⟩ := h h0
   exact ⟨p, e, hF _ hp, fun i x hi => by
    obtain ⟨ds, h1, h2⟩ := h i x hi
    exact ⟨ds, h1.mono (hm _ hp), Rep.mono hF hm hρ t x ds h2⟩⟩⟩
 | .ptr t, v, cs, h => by
   rcases h with h | ⟨x, p, ds, e, ec, hp, h1, h2⟩
   ·exact .inl h
   ·exact .inr ⟨x, p, ds, e, ec, hF _ hp, h1.mono (hm _ hp), Rep.mono hF hm hρ t x ds h2⟩
 | .rad t o, v, cs, ⟨p, ds, ec, hp, h1, h2⟩ => ⟨p, ds, ec, hF _ hp, h1.mono (hm _ hp), Rep.mono hF hm hρ t v ds h2⟩
 | .ow r, _, _, ⟨ri, h, e⟩ => ⟨ri, hρ _ _ h, e⟩
 | .osl r, _, _, ⟨ri, h, e⟩ => ⟨ri, hρ _ _ h, e⟩
 | .oad r o, _, _, ⟨ri, p, h, e⟩ => ⟨ri, p, hρ _ _ h, e⟩
 | .clo f c, v, cs, ⟨ds, e, h⟩ => ⟨ds, e, Rep.mono hF hm hρ c v ds h⟩
 | .tup _, _, _, h => h
 | .nils, _, _, h => h
 | .nilp, _, _, h => h
 | .lost, _, _, h => h
 | .any, _, _, h => h
 | .pad r o, _, _, ⟨ri, p, h, e⟩ => ⟨ri, p, hρ _ _ h, e⟩
 | .psl q, _, _, h => h.imp id fun ⟨i, u, e, ri, h, g⟩ => ⟨i, u, e, ri, hρ _ _ h, g⟩
 | .pdd q o, _, _, ⟨ri, p, h, e⟩ => ⟨ri, p, hρ _ _ h, e⟩
 | .vec _, _, _, h => h
 | .bx _, _, _, h => h
 | .iter, _, _, h => h
 | .nxt _ _, _, _, h => h
 | .mpc _ _, _, _, h => h
 | .mit _ _, _, _, h => h
 | .mpv r, _, _, ⟨ri, p, h, e⟩ => ⟨ri, p, hρ _ _ h, e⟩
 | .fmp k t, l, cs, ⟨b, e, hb, ha, h0, h⟩ => ⟨b, e, hF _ hb, fun o => (ha o).elim fun x hx => ⟨x, hm _ hb _ _ hx⟩, hm _ hb _ _ h0, fun i p hi => by
   obtain ⟨x, ds, h2, h3, h4⟩ := h i p hi
   exact ⟨x, ds, hm _ hb _ _ h2, h3, Rep.mono hF hm hρ t p.2 ds h4⟩⟩
 | .sln t, v, cs, ⟨A, n, c, e, hn, hc, hl, h⟩ => ⟨A, n, c, e, hn, hc, hl, fun h0 => by
   obtain ⟨p, e, hp, h⟩ := h h0
   exact ⟨p, e, hF _ hp, fun i x hi => by
    obtain ⟨ds, h1, h2⟩ := h i x hi
    exact ⟨ds, h1.mono (hm _ hp), Rep.mono hF hm hρ t x ds h2⟩⟩⟩
theorem Rep.length {F : Nat → Prop} {m : Nat → Nat → Option Value} {ρ : RK → Option RI} : ∀ (t : Ty) (v : t.den) (cs : List Value), Rep F m ρ t v cs → cs.length = t.size
 | .int _, _, _, h => by cases h; rfl
 | .bool, _, _, h => by cases h; rfl
 | .str, _, _, h => by cases h; rfl
 | .st t, v, cs, h => Rep.length t v cs h
 | .unit, _, _, h => by cases h; rfl
 | .pair a b, v, cs, ⟨c1, c2, e, h1, h2⟩ => by
   subst e; simp [Ty.size, Rep.length a _ _ h1, Rep.length b _ _ h2]
 | .slice t, v, cs, ⟨A, n, c, e, _⟩ => by subst e; rfl
 | .ptr t, v, cs, h => by
   rcases h with ⟨_, e⟩ | ⟨x, p, ds, e, ec, _⟩ <;> (subst_vars; rfl)
 | .rad t o, v, cs, ⟨p, ds, ec, _⟩ => by subst ec; rfl
 | .ow r, _, _, ⟨ri, h, e⟩ => by subst e; rfl
 | .osl r, _, _, ⟨ri, h, A, c, e, _⟩ => by subst e; rfl
 | .oad r o, _, _, ⟨ri, p, h, _, e⟩ => by subst e; rfl
 | .clo f c, v, cs, ⟨ds, e, h⟩ => by subst e; rfl
 | .tup _, _, _, h => h.elim
 | .nils, _, _, h => by cases h; rfl
 | .nilp, _, _, h => by cases h; rfl
 | .lost, _, _, ⟨c, e, _⟩ => by subst e; rfl
 | .any, _, _, h => h
 | .pad r o, _, _, ⟨ri, p, h, _, e⟩ => by subst e; rfl
 | .psl q, _, _, h => by
   rcases h with ⟨_, e⟩ | ⟨i, u, _, ri, h, A, c, e, _⟩ <;> (subst e; rfl)
 | .pdd q o, _, _, ⟨ri, p, h, _, e⟩ => by subst e; rfl
 | .vec _, _, _, h => h.elim
 | .bx _, _, _, h => h.elim
 | .iter, _, _, h => h.elim
 | .nxt _ _, _, _, h => h.elim
 | .mpc _ _, _, _, h => h.elim
 | .mit _ _, _, _, h => h.elim
 | .mpv r, _, _, ⟨ri, p, h, _, e⟩ => by subst e; rfl
 | .fmp k t, l, cs, ⟨b, e, _⟩ => by subst e; rfl
 | .sln t, v, cs, ⟨A, n, c, e, _⟩ => by subst e; rfl
theorem Rep.pure {F : Nat → Prop} {m : Nat → Nat → Option Value} {ρ ρ' : RK → Option RI} : ∀ (t : Ty) (v : t.den) (cs : List Value), t.pure = true → Rep F m ρ t v cs → Rep F m ρ' t v cs
 | .int _, _, _, _, h => h
 | .bool, _, _, _, h => h
 | .str, _, _, _, h => h
 | .st t, v, cs, hp, h => Rep.pure t v cs hp h
 | .unit, _, _, _, h => h
 | .pair a b, v, cs, hp, ⟨c1, c2, e, h1, h2⟩ => by
   simp only [Ty.pure, Bool.and_eq_true] at hp
   exact ⟨c1, c2, e, Rep.pure a _ _ hp.1 h1, Rep.pure b _ _ hp.2 h2⟩
 | .slice t, v, cs, hp, ⟨A, n, c, e, hn, hc, h⟩ => ⟨A, n, c, e, hn, hc, fun h0 => by
   obtain ⟨p, e, hp', h⟩ := h h0
   exact ⟨p, e, hp', fun i x hi => by
    obtain ⟨ds, h1, h2⟩ := h i x hi
    exact ⟨ds, h1, Rep.pure t x ds hp h2⟩⟩⟩
 | .ptr t, v, cs, hp, h => by
   rcases h with h | ⟨x, p, ds, e, ec, hp', h1, h2⟩
   ·exact .inl h
   ·exact .inr ⟨x, p, ds, e, ec, hp', h1, Rep.pure t x ds hp h2⟩
 | .rad t o, v, cs, hp, ⟨p, ds, ec, hp', h1, h2⟩ => ⟨p, ds, ec, hp', h1, Rep.pure t v ds hp h2⟩
 | .clo f c, v, cs, hp, ⟨ds, e, h⟩ => ⟨ds, e, Rep.pure c v ds hp h⟩
 | .nils, _, _, _, h => h
 | .nilp, _, _, _, h => h
 | .lost, _, _, _, h => h
 | .fmp k t, l, cs, hp, ⟨b, e, hb, ha, h0, h⟩ => ⟨b, e, hb, ha, h0, fun i p hi => by
   obtain ⟨x, ds, h2, h3, h4⟩ := h i p hi
   exact ⟨x, ds, h2, h3, Rep.pure t p.2 ds hp h4⟩⟩
 | .sln t, v, cs, hp, ⟨A, n, c, e, hn, hc, hl, h⟩ => ⟨A, n, c, e, hn, hc, hl, fun h0 => by
   obtain ⟨p, e, hp', h⟩ := h h0
   exact ⟨p, e, hp', fun i x hi => by
    obtain ⟨ds, h1, h2⟩ := h i x hi
    exact ⟨ds, h1, Rep.pure t x ds hp h2⟩⟩⟩
theorem Ty.hold_of_pure : ∀ (t : Ty), t.pure = true → t.hold = true
 | .st t, h => Ty.hold_of_pure t h
 | .pair a b, h => by
   simp only [Ty.pure, Bool.and_eq_true] at h
   simp [Ty.hold, Ty.hold_of_pure a h.1, Ty.hold_of_pure b h.2]
 | .int _, h => h
 | .bool, h => h
 | .str, h => h
 | .unit, h => h
 | .slice t, h => Ty.hold_of_pure t h
 | .sln _, h => h
 | .ptr _, h => h
 | .rad _ _, h => h
 | .clo _ _, h => h
 | .nils, h => h
 | .nilp, h => h
 | .lost, h => h
 | .fmp _ _, h => h
theorem Rep.hold {F : Nat → Prop} {m : Nat → Nat → Option Value} {ρ ρ' : RK → Option RI} (hρ : ∀ p i x, ρ (.pl p i) = some x → ρ' (.pl p i) = some x) : ∀ (t : Ty) (v : t.den) (cs : List Value), t.hold = true → Rep F m ρ t v cs → Rep F m ρ' t v cs
 | .st t, v, cs, hp, h => Rep.hold hρ t v cs hp h
 | .pair a b, v, cs, hp, ⟨c1, c2, e, h1, h2⟩ => by
   simp only [Ty.hold, Bool.and_eq_true] at hp
   exact ⟨c1, c2, e, Rep.hold hρ a _ _ hp.1 h1, Rep.hold hρ b _ _ hp.2 h2⟩
 | .psl q, _, _, _, h => h.imp id fun ⟨i, u, e, ri, h, g⟩ => ⟨i, u, e, ri, hρ _ _ _ h, g⟩
 | .int _, _, _, _, h => h
 | .bool, _, _, _, h => h
 | .str, _, _, _, h => h
 | .unit, _, _, _, h => h
 | .slice t, v, cs, hp, ⟨A, n, c, e, hn, hc, h⟩ => ⟨A, n, c, e, hn, hc, fun h0 => by
   obtain ⟨p, e, hp', h⟩ := h h0
   exact ⟨p, e, hp', fun i x hi => by
    obtain ⟨ds, h1, h2⟩ := h i x hi
    exact ⟨ds, h1, Rep.hold hρ t x ds hp h2⟩⟩⟩
 | .sln t, v, cs, hp, h => Rep.pure (.sln t) v cs hp h
 | .ptr t, v, cs, hp, h => Rep.pure (.ptr t) v cs hp h
 | .rad t o, v, cs, hp, h => Rep.pure (.rad t o) v cs hp h
 | .clo f c, v, cs, hp, h => Rep.pure (.clo f c) v cs hp h
 | .fmp k t, v, cs, hp, h => Rep.pure (.fmp k t) v cs hp h
 | .nils, _, _, _, h => h
 | .nilp, _, _, _, h => h
 | .lost, _, _, _, h => h
theorem Rep.holdP {F : Nat → Prop} {m : Nat → Nat → Option Value} {ρ ρ' : RK → Option RI} : ∀ (t : Ty) (v : t.den) (cs : List Value), t.hold = true → (∀ p ∈ t.pls, ∀ i x, ρ (.pl p i) = some x → ρ' (.pl p i) = some x) → Rep F m ρ t v cs → Rep F m ρ' t v cs
 | .st t, v, cs, hp, hρ, h => Rep.holdP t v cs hp hρ h
 | .pair a b, v, cs, hp, hρ, ⟨c1, c2, e, h1, h2⟩ => by
   simp only [Ty.hold, Bool.and_eq_true] at hp
   exact ⟨c1, c2, e, Rep.holdP a _ _ hp.1 (fun p h => hρ p (by simp [Ty.pls, h])) h1, Rep.holdP b _ _ hp.2 (fun p h => hρ p (by simp [Ty.pls, h])) h2⟩
 | .psl q, _, _, _, hρ, h => h.imp id fun ⟨i, u, e, ri, h, g⟩ => ⟨i, u, e, ri, hρ q (by simp [Ty.pls]) _ _ h, g⟩
 | .int _, _, _, _, _, h => h
 | .bool, _, _, _, _, h => h
 | .str, _, _, _, _, h => h
 | .unit, _, _, _, _, h => h
 | .slice t, v, cs, hp, hρ, ⟨A, n, c, e, hn, hc, h⟩ => ⟨A, n, c, e, hn, hc, fun h0 => by
   obtain ⟨p, e, hp', h⟩ := h h0
   exact ⟨p, e, hp', fun i x hi => by
    obtain ⟨ds, h1, h2⟩ := h i x hi
    exact ⟨ds, h1, Rep.holdP t x ds hp (fun p h => hρ p (by simpa [Ty.pls] using h)) h2⟩⟩⟩
 | .sln t, v, cs, hp, _, h => Rep.pure (.sln t) v cs hp h
 | .ptr t, v, cs, hp, _, h => Rep.pure (.ptr t) v cs hp h
 | .rad t o, v, cs, hp, _, h => Rep.pure (.rad t o) v cs hp h
 | .clo f c, v, cs, hp, _, h => Rep.pure (.clo f c) v cs hp h
 | .fmp k t, v, cs, hp, _, h => Rep.pure (.fmp k t) v cs hp h
 | .nils, _, _, _, _, h => h
 | .nilp, _, _, _, _, h => h
 | .lost, _, _, _, _, h => h
theorem Rep.flat {F F' : Nat → Prop} {m m' : Nat → Nat → Option Value} {ρ : RK → Option RI} : ∀ (t : Ty) (v : t.den) (cs : List Value), t.flat = true → Rep F m ρ t v cs → Rep F' m' ρ t v cs
 | .lost, _, _, _, h => h
 | .nils, _, _, _, h => h
 | .nilp, _, _, _, h => h
 | .psl _, _, _, _, h => h
 | .int _, _, _, _, h => h
 | .bool, _, _, _, h => h
 | .str, _, _, _, h => h
 | .st t, v, cs, hp, h => Rep.flat t v cs hp h
 | .unit, _, _, _, h => h
 | .pair a b, v, cs, hp, ⟨c1, c2, e, h1, h2⟩ => by
   simp only [Ty.flat, Bool.and_eq_true] at hp
   exact ⟨c1, c2, e, Rep.flat a _ _ hp.1 h1, Rep.flat b _ _ hp.2 h2⟩
theorem RepV1.mono {F F' : Nat → Prop} {m m' : Nat → Nat → Option Value} {ρ ρ' : RK → Option RI} (hF : ∀ b, F b → F' b)
  (hm : ∀ b, F b → ∀ j v, m b j = some v → m' b j = some v) (hρ : ∀ r x, ρ r = some x → ρ' r = some x) (t : Ty) (v : t.den) (x : Value) (h : RepV1 F m ρ t v x) : RepV1 F' m' ρ' t v x := by
 unfold RepV1 at *
 split at h
 ·obtain ⟨cs, e, h⟩ := h
  rw [if_pos ‹_›]
  exact ⟨cs, e, Rep.mono hF hm hρ t v cs h⟩
 ·rw [if_neg ‹_›]
  exact ⟨h.1, Rep.mono hF hm hρ t v _ h.2⟩
theorem RepVs.mono {F F' : Nat → Prop} {m m' : Nat → Nat → Option Value} {ρ ρ' : RK → Option RI} (hF : ∀ b, F b → F' b)
  (hm : ∀ b, F b → ∀ j v, m b j = some v → m' b j = some v) (hρ : ∀ r x, ρ r = some x → ρ' r = some x) : ∀ (t : Ty) (v : t.den) (vs : List Value), RepVs F m ρ t v vs → RepVs F' m' ρ' t v vs
 | .unit, _, _, h => h
 | .pair a b, v, vs, ⟨x, r, e, h1, h2⟩ => ⟨x, r, e, RepV1.mono hF hm hρ a _ _ h1, RepVs.mono hF hm hρ b _ _ h2⟩
 | .nxt a b, none, vs, h => h
 | .nxt a b, some p, vs, ⟨x, y, e, h1, h2⟩ => ⟨x, y, e, RepV1.mono hF hm hρ a _ _ h1, RepV1.mono hF hm hρ b _ _ h2⟩
theorem RepV.mono {F F' : Nat → Prop} {m m' : Nat → Nat → Option Value} {ρ ρ' : RK → Option RI} (hF : ∀ b, F b → F' b)
  (hm : ∀ b, F b → ∀ j v, m b j = some v → m' b j = some v) (hρ : ∀ r x, ρ r = some x → ρ' r = some x) (t : Ty) (v : t.den) (x : Value) (h : RepV F m ρ t v x) : RepV F' m' ρ' t v x := by
 cases t with
 | any => trivial
 | tup t => obtain ⟨vs, e, h⟩ := h; exact ⟨vs, e, RepVs.mono hF hm hρ t v vs h⟩
 | _ => exact RepV1.mono hF hm hρ _ v x h
end Go.Vu
