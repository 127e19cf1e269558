/- Value semantics, part 5: what a body of code does to a state of values. -/
import Derived.Test.YtfklhbmicfammaaVsOp
set_option linter.unusedVariables false
namespace Go.Vs
open Go

inductive EK where
  | normal | exit (n : Nat) | ret
  deriving DecidableEq

/- - which slots a loop hands on, and which regions: the slot that owns each, and what its elements are -/
structure Tpl where
  sl : List (Nat × Ty)
  rg : List (Nat × Ty)
  fn : List (Nat × Nat)

abbrev SDen : List (Nat × Ty) → Type
  | [] => Unit
  | (_, .ow _) :: r => SDen r
  | (_, t) :: r => t.den × SDen r
abbrev GDen : List (Nat × Ty) → Type
  | [] => Unit
  | (_, t) :: r => List t.den × GDen r
abbrev Tpl.X (t : Tpl) : Type := SDen t.sl × GDen t.rg

/- - the region that a slot owns (none: it is empty), whether it is cut anew, and what is in it -/
def ownerOf (s : St) (slot : Nat) (t : Ty) : Option ((Option Nat × Bool) × List t.den) := match s.get slot with
  | some ⟨.ow q, _⟩ => match s.obj q with
    | some ob => if h : ob.t = t then some ((some q, false), h ▸ ob.xs) else none
    | none => none
  | some ⟨.osl q, v⟩ => match s.obj q with
    | some ob => if h : ob.t = t then some ((some q, true), h ▸ ((ob.xs.drop v.1).take v.2)) else none
    | none => none
  | some ⟨.oad q _, _⟩ => match s.obj q with
    | some ob => if h : ob.t = t then some ((some q, false), h ▸ ob.xs) else none
    | none => none
  | some ⟨.nils, _⟩ => if t.pure then some ((none, true), []) else none
  | _ => none

def packG (s : St) : (rg : List (Nat × Ty)) → Option (List (Option Nat × Bool) × GDen rg)
  | [] => some ([], ())
  | (slot, t) :: r => match ownerOf s slot t, packG s r with
    | some (o, xs), some (os, v) => some (o :: os, (xs, v))
    | _, _ => none

/- - a slot's value under a template's type; the regions that it takes to be read only -/
def slotV (s : St) (own : List (Option Nat × Bool)) (x : TV) (T : Ty) : Option (T.den × List Nat) := match T with
  | .osl c => match x with
    | ⟨.osl q, v⟩ => if own[c]? = some (some q, false) then some (v, []) else none
    | _ => none
  | .oad c o => match x with
    | ⟨.oad q o', i⟩ => if own[c]? = some (some q, false) && o == o' then some (i, []) else none
    | _ => none
  | .ow c => none
  | T => match coe x.t x.v T with
    | some v => if T.pure then some (v, []) else none
    | none => match x with
      | ⟨.ow q, _⟩ => match s.obj q with
        | some ob => match coe (.slice ob.t) ob.xs T with
          | some v => if T.pure then some (v, [q]) else none
          | none => none
        | none => none
      | ⟨.osl q, v⟩ => match s.obj q with
        | some ob => match coe (.slice ob.t) ((ob.xs.drop v.1).take v.2) T with
          | some v => if T.pure then some (v, [q]) else none
          | none => none
        | none => none
      | _ => none

/- - a slot that has a whole region -/
def slotOw (s : St) (own : List (Option Nat × Bool)) (rg : List (Nat × Ty)) (slot : Nat) (x : TV) (c : Nat) : Bool :=
  match x with
    | ⟨.oad _ _, _⟩ => false
    | ⟨.ow q, _⟩ => decide (own[c]? = some (some q, false)) || (match rg[c]? with
      | some (o, _) => o == slot
      | none => false)
    | _ => match rg[c]? with
      | some (o, _) => o == slot
      | none => false

def packS (s : St) (own : List (Option Nat × Bool)) (rg : List (Nat × Ty)) : (sl : List (Nat × Ty)) → Option (SDen sl × List Nat)
  | [] => some ((), [])
  | (i, .ow c) :: r => match s.get i, packS s own rg r with
    | some x, some (v, fr) => if slotOw s own rg i x c then some (v, fr) else none
    | _, _ => none
  | (i, .bool) :: r => slot1 i .bool r (packS s own rg r)
  | (i, .int k) :: r => slot1 i (.int k) r (packS s own rg r)
  | (i, .str) :: r => slot1 i .str r (packS s own rg r)
  | (i, .st t) :: r => slot1 i (.st t) r (packS s own rg r)
  | (i, .unit) :: r => slot1 i .unit r (packS s own rg r)
  | (i, .pair a b) :: r => slot1 i (.pair a b) r (packS s own rg r)
  | (i, .slice t) :: r => slot1 i (.slice t) r (packS s own rg r)
  | (i, .ptr t) :: r => slot1 i (.ptr t) r (packS s own rg r)
  | (i, .rad t o) :: r => slot1 i (.rad t o) r (packS s own rg r)
  | (i, .osl c) :: r => slot1 i (.osl c) r (packS s own rg r)
  | (i, .oad c o) :: r => slot1 i (.oad c o) r (packS s own rg r)
  | (i, .clo f c) :: r => slot1 i (.clo f c) r (packS s own rg r)
  | (i, .tup t) :: r => none
  | (i, .nils) :: r => slot1 i .nils r (packS s own rg r)
  | (i, .nilp) :: r => slot1 i .nilp r (packS s own rg r)
  | (i, .any) :: r => none
 where slot1 (i : Nat) (T : Ty) (r : List (Nat × Ty)) (rest : Option (SDen r × List Nat)) : Option ((T.den × SDen r) × List Nat) := match s.get i with
    | some x => match slotV s own x T, rest with
      | some (v, f1), some (w, f2) => some ((v, w), f1 ++ f2)
      | _, _ => none
    | none => none

/- - slots that hold functions known by name -/
def packFn (s : St) : List (Nat × Nat) → Bool
  | [] => true
  | (i, f) :: r => (match s.get i with
    | some ⟨.clo f' .unit, _⟩ => Nat.beq f' f
    | _ => false) && packFn s r

def pack (n : Nat) (s : St) (t : Tpl) : Option t.X := match packG s t.rg with
  | some (own, g) => if s.n == n then match packS s own t.rg t.sl with
    | some (v, fr) => if noDup (own.filterMap (·.1)) && (fr.all fun q => !((own.filterMap (·.1)).contains q)) && packFn s t.fn then some (v, g) else none
    | none => none
    else none
  | none => none

def unS : (sl : List (Nat × Ty)) → SDen sl → List (Nat × TV)
  | [], _ => []
  | (i, .ow c) :: r, v => (i, ⟨.ow c, ()⟩) :: unS r v
  | (i, .bool) :: r, v => (i, ⟨.bool, v.1⟩) :: unS r v.2
  | (i, .int k) :: r, v => (i, ⟨.int k, v.1⟩) :: unS r v.2
  | (i, .str) :: r, v => (i, ⟨.str, v.1⟩) :: unS r v.2
  | (i, .st t) :: r, v => (i, ⟨.st t, v.1⟩) :: unS r v.2
  | (i, .unit) :: r, v => (i, ⟨.unit, v.1⟩) :: unS r v.2
  | (i, .pair a b) :: r, v => (i, ⟨.pair a b, v.1⟩) :: unS r v.2
  | (i, .slice t) :: r, v => (i, ⟨.slice t, v.1⟩) :: unS r v.2
  | (i, .ptr t) :: r, v => (i, ⟨.ptr t, v.1⟩) :: unS r v.2
  | (i, .rad t o) :: r, v => (i, ⟨.rad t o, v.1⟩) :: unS r v.2
  | (i, .osl c) :: r, v => (i, ⟨.osl c, v.1⟩) :: unS r v.2
  | (i, .oad c o) :: r, v => (i, ⟨.oad c o, v.1⟩) :: unS r v.2
  | (i, .clo f c) :: r, v => (i, ⟨.clo f c, v.1⟩) :: unS r v.2
  | (i, .tup t) :: r, v => (i, ⟨.tup t, v.1⟩) :: unS r v.2
  | (i, .nils) :: r, v => (i, ⟨.nils, v.1⟩) :: unS r v.2
  | (i, .nilp) :: r, v => (i, ⟨.nilp, v.1⟩) :: unS r v.2
  | (i, .any) :: r, v => (i, ⟨.any, v.1⟩) :: unS r v.2
def unG : (rg : List (Nat × Ty)) → GDen rg → List ObS
  | [], _ => []
  | (_, t) :: r, v => .live ⟨t, v.1⟩ :: unG r v.2
def unFn : List (Nat × Nat) → List (Nat × TV) → List (Nat × TV)
  | [], l => l
  | (i, f) :: r, l => (i, ⟨.clo f .unit, ()⟩) :: unFn r l
def unpack (n : Nat) (t : Tpl) (x : t.X) : St := ⟨n, unFn t.fn (unS t.sl x.1), unG t.rg x.2⟩

abbrev Outs : List (EK × Tpl) → Type
  | [] => Empty
  | [e] => e.2.X
  | e :: f :: r => e.2.X ⊕ Outs (f :: r)

def outPack (n : Nat) (s : St) (k : EK) : (l : List (EK × Tpl)) → Option (Outs l)
  | [] => none
  | [e] => if e.1 = k then pack n s e.2 else none
  | e :: f :: r => if e.1 = k then (pack n s e.2).map .inl else (outPack n s k (f :: r)).map .inr

def outK {R : Type} (n : Nat) (K : EK → St → Option R) : (l : List (EK × Tpl)) → Outs l → Option R
  | [], x => x.elim
  | [e], x => K e.1 (unpack n e.2 x)
  | e :: f :: r, x => match x with
    | .inl y => K e.1 (unpack n e.2 y)
    | .inr y => outK n K (f :: r) y

structure LH where
  inv : Tpl
  exits : List (EK × Tpl)

def iterN {X Y : Type} (f : X → Option (X ⊕ Y)) : Nat → X → Option Y
  | 0, _ => none
  | n + 1, x => match f x with
    | none => none
    | some (.inl y) => iterN f n y
    | some (.inr y) => some y

def firstReg : Code → Option Nat
  | .region id _ _ => some id
  | .seq a b => match firstReg a with
    | some i => some i
    | none => firstReg b
  | .cond _ a b => match firstReg a with
    | some i => some i
    | none => firstReg b
  | .block _ c => firstReg c
  | .loop c => firstReg c
  | .scope c => firstReg c
  | _ => none

/- - loops that begin with a loop -/
def headLoops : Code → Nat
  | .seq a b => match firstReg a with
    | some _ => headLoops a
    | none => headLoops b
  | .block _ c => headLoops c
  | .loop c => headLoops c + 1
  | .scope c => headLoops c
  | _ => 0

def live : List ObS → Nat
  | [] => 0
  | .live _ :: r => live r + 1
  | _ :: r => live r

def isEff (o : Oper) : Bool := match o.op with
  | .store .. => true
  | .call { callee := .builtin .append, .. } => true
  | .call { callee := .value _, .. } => true
  | _ => false

/- - what is written into memory may be written there as it is -/
def pureAll (s : St) (l : List Operand) : Bool := l.all fun x => match ev s x with
  | some x => x.t.pure
  | none => false

/- - an operation that may be carried out in any order with its like -/
def isStill (o : Oper) (s : St) : Bool := match o.op with
  | .store .. => false
  | .box _ x => pureAll s [x]
  | .build _ parts => pureAll s (parts.toList.map (·.2))
  | .buildSlice _ _ parts => pureAll s (parts.toList.map (·.2))
  | .makeFunc _ _ captured => pureAll s captured.toList
  | .call { callee := .builtin .append, .. } => false
  | .call { callee := .builtin .clear, .. } => false
  | _ => true

/- - the region that a value tells of -/
def regOf : Ty → Option Nat
  | .ow r => some r
  | .osl r => some r
  | .oad r _ => some r
  | _ => none
def evReg (s : St) (x : Operand) : Option Nat := match ev s x with
  | some tv => regOf tv.t
  | none => none
def isApp (o : Oper) : Bool := match o.op with
  | .call { callee := .builtin .append, .. } => true
  | _ => false
/- - the regions that an operation's operands tell of, of those that were made in the same region of code -/
def opUses (s : St) (base : Nat) (o : Oper) : List Nat := o.op.operands.toList.filterMap fun x => match evReg s x with
  | some r => if base ≤ r then some r else none
  | none => none
/- - an append that gives up at most what was made in the same region of code -/
def appOwn (s : St) (base : Nat) (o : Oper) : Bool := match o.op with
  | .call { callee := .builtin .append, args, .. } => (args.toList.take 1).all fun x => match evReg s x with
    | some r => decide (base ≤ r)
    | none => true
  | _ => false
def Eff.still {R : Type} (e : Eff R) (o : Oper) (s : St) : Bool := isStill o s && e.ut.isNone && live e.base.objs == live s.objs
def isFresh (s : St) (id : Nat) : Bool := match s.objs[id]? with
  | some .fresh => true
  | _ => false

/- - how many operations of a region that draws its order come before the tail -/
def headLen (ops : Array Oper) : Option Nat :=
  if Region.lexB .any ops && ops.toList.all (fun o => match o.op with | .store .. | .call { callee := .builtin .append, .. } => false | _ => true) then some ops.size else
  ((List.range ops.size).filter fun n => (match ops[n]? with | some o => isEff o | none => false) && Region.lexTailB .any ops n).head?

/- - the other operations that an operation waits for, and some more -/
def addE (L : List Nat) (o : Oper) : Oper := { o with after := o.after ++ (L.map fun k => (⟨k, .data⟩ : Edge)).toArray }
def patchAt (n : Nat) (L : List Nat) (ops : Array Oper) : Array Oper := match ops[n]? with
  | some o => ops.setIfInBounds n (addE L o)
  | none => ops

/- - these moves may be taken first, one after the other -/
def takesB (n : Nat) (L : List Nat) (ops : Array Oper) : List Nat → Array Bool → Bool
  | [], listed => L.all fun k => listed.getD k false
  | l :: r, listed => (match ops[l]? with
    | some o => o.guard.isNone && (match o.op with | .move _ => true | .assign _ => true | .binOp .add _ _ _ _ => true | .binOp .sub _ _ _ _ => true | _ => false)
    | none => false) && (Region.ready .any ops listed).contains l && (Region.ready .any (patchAt n L ops) listed).contains l && Region.free .any ops listed l && takesB n L ops r (listed.setIfInBounds l true)


/- - a whole number, or nothing that is known -/
def intTV (x : Option TV) : TV := match x with
  | some ⟨.int k, n⟩ => ⟨.int k, n⟩
  | _ => ⟨.any, ()⟩
/- - what is taken first is whole numbers' sums, and moves -/
def looseRun (ops : Array Oper) : List Nat → St → Bool
  | [], _ => true
  | l :: r, s => match ops[l]? with
    | some o => match o.op with
      | .move x => looseRun ops r (s.put o.dst (intTV (ev s x)))
      | .assign x => looseRun ops r (s.put o.dst (intTV (ev s x)))
      | .binOp .add _ x y _ => (match ev s x, ev s y with
        | some ⟨.int k, m⟩, some ⟨.int k', n⟩ => decide (k = k') && looseRun ops r (s.put o.dst ⟨.int k, k.wrap (m + n)⟩)
        | _, _ => false)
      | .binOp .sub _ x y _ => (match ev s x, ev s y with
        | some ⟨.int k, m⟩, some ⟨.int k', n⟩ => decide (k = k') && looseRun ops r (s.put o.dst ⟨.int k, k.wrap (m - n)⟩)
        | _, _ => false)
      | _ => false
    | none => false
def isWrite (o : Oper) : Bool := match o.op with
  | .store .. => true
  | .call { callee := .builtin .append, .. } => true
  | .call { callee := .builtin .clear, .. } => true
  | _ => false
/- - moves for a later write, which may come behind the first -/
def looseAt (ops : Array Oper) (n : Nat) : List Nat := (List.range n).foldr (fun k L => if (List.range (n + 1)).any fun j => decide (k < j) && Region.waitsFor .any ops j k && !(L.contains j) then L else k :: L) []
def regPatch (ops : Array Oper) : Option (Nat × List Nat) := match (List.range ops.size).find? fun n => match ops[n]? with | some o => isWrite o | none => false with
  | none => none
  | some n => match looseAt ops n with
    | [] => none
    | L => if Region.noSelect ops && decide (L.length ≤ ops.size) && takesB n L ops L (Array.replicate ops.size false) then some (n, L) else none

section
variable (tb : Tab) (Γ : Nat → List Ctr)

def semOp {R : Type} (o : Oper) (base k : Nat) (still ap : Bool) (us : List Nat) (s : St) (K : List Nat → St → Option R) : Option R := match opD tb Γ o (base + k) s with
  | none => none
  | some e => if (still && !(e.still o s || (ap && e.ut.isNone && appOwn s base o))) || !isFresh s (base + k) || (ap && still && (opUses s base o).any us.contains) then none
    else e.k.cps fun v => K (if ap && still then opUses s base o ++ us else us) (e.out o.dst (base + k) v)

def semOps {R : Type} (ops : Array Oper) (base n : Nat) (ap : Bool) : List Oper → Nat → List Nat → St → (St → Option R) → Option R
  | [], _, _, s, K => K s
  | o :: l, k, us, s, K => match o.guard with
    | none => semOp tb Γ o base k (decide (k < n)) ap us s fun us s' => semOps ops base n ap l (k + 1) us s' K
    | some (j, want) => match ops[j]?.bind (·.dst) with
      | none => none
      | some d => match s.get d with
        | some ⟨.bool, b⟩ => bif b then
            (if want then semOp tb Γ o base k (decide (k < n)) ap us (s.put (some d) ⟨.bool, true⟩) fun us s' => semOps ops base n ap l (k + 1) us s' K
             else semOps ops base n ap l (k + 1) us ((s.put (some d) ⟨.bool, true⟩).put o.dst ⟨.tup .unit, ()⟩) K)
          else
            (if want then semOps ops base n ap l (k + 1) us ((s.put (some d) ⟨.bool, false⟩).put o.dst ⟨.tup .unit, ()⟩) K
             else semOp tb Γ o base k (decide (k < n)) ap us (s.put (some d) ⟨.bool, false⟩) fun us s' => semOps ops base n ap l (k + 1) us s' K)
        | some ⟨.tup .unit, _⟩ => semOps ops base n ap l (k + 1) us (s.put o.dst ⟨.tup .unit, ()⟩) K
        | _ => none
/- - an append among the first operations -/
def headApp (ops : Array Oper) (n : Nat) : Bool := (ops.toList.take n).any isApp

variable (H : Nat → Option LH) (fuel nn : Nat)

def sem {R : Type} : Code → St → (EK → St → Option R) → Option R
  | .skip, s, K => K .normal s
  | .region _ ops draw, s, K =>
    if draw then match regPatch ops with
      | none => (match headLen ops with
        | some n => semOps tb Γ ops s.objs.length n (headApp ops n) ops.toList 0 [] (s.room ops.size) (K .normal)
        | none => none)
      | some (m, L) => match (if looseRun ops L (s.room (patchAt m L ops).size) then headLen (patchAt m L ops) else none) with
        | some n => semOps tb Γ (patchAt m L ops) s.objs.length n (headApp (patchAt m L ops) n) (patchAt m L ops).toList 0 [] (s.room (patchAt m L ops).size) (K .normal)
        | none => none
    else semOps tb Γ ops s.objs.length 0 false ops.toList 0 [] (s.room ops.size) (K .normal)
  | .seq a b, s, K => match (match firstReg a, firstReg b with
      | some i, some j => H (1000000 + i * 10000 + j)
      | _, _ => none) with
    | some h => match sem a s (fun e s' => outPack nn s' e h.exits) with
      | none => none
      | some y => outK nn (fun e s' => match e with
        | .normal => sem b s' K
        | e => K e s') h.exits y
    | none => sem a s fun e s' => match e with
      | .normal => sem b s' K
      | e => K e s'
  | .cond c a b, s, K => match ev s c with
    | some ⟨.bool, v⟩ => bif v then sem a s K else sem b s K
    | _ => none
  | .block id c, s, K => sem c s fun e s' => match e with
    | .exit n => if n = id then K .normal s' else K (.exit n) s'
    | e => K e s'
  | .loop c, s, K => match firstReg c with
    | none => none
    | some i => match H (i + 100000 * headLoops c) with
      | none => none
      | some h => match pack nn s h.inv with
        | none => none
        | some x => match iterN (fun x => sem c (unpack nn h.inv x) fun e s' => match e with
            | .normal => (pack nn s' h.inv).map .inl
            | e => (outPack nn s' e h.exits).map .inr) fuel x with
          | none => none
          | some y => outK nn K h.exits y
  | .exit n, s, K => K (.exit n) s
  | .scope c, s, K => none
  | .label _, s, K => K .normal s
  | .goto _, _, _ => none
  | .ret, s, K => K .ret s
  | .rangeFunc .., _, _ => none
  | .refuse _, _, _ => none
end

end Go.Vs
