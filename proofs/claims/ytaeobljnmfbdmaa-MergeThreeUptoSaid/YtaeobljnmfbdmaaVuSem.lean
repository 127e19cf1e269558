/- Value semantics, part 5: what a body of code does to a state of values. -/
import Derived.Test.YtaeobljnmfbdmaaVuOp
set_option linter.unusedVariables false
namespace Go.Vu
open Go
inductive EK where
 | normal | exit (n : Nat) | ret
 deriving DecidableEq
structure Tpl where
 sl : List (Nat × Ty)
 fn : List (Nat × Nat)
 pl : List (Nat × Ty) := []
abbrev SDen : List (Nat × Ty) → Type
 | [] => Unit
 | (_, t) :: r => t.den × SDen r
abbrev XDen (sl : List (Nat × Ty)) : List (Nat × Ty) → Type
 | [] => SDen sl
 | p :: r => SDen sl × PlDen (p :: r)
def mkX {sl : List (Nat × Ty)} : (pl : List (Nat × Ty)) → SDen sl → PlDen pl → XDen sl pl
 | [], v, _ => v
 | _ :: _, v, u => (v, u)
def xS {sl : List (Nat × Ty)} : (pl : List (Nat × Ty)) → XDen sl pl → SDen sl
 | [], x => x
 | _ :: _, x => x.1
def xP {sl : List (Nat × Ty)} : (pl : List (Nat × Ty)) → XDen sl pl → PlDen pl
 | [], _ => ()
 | _ :: _, x => x.2
abbrev Tpl.X (t : Tpl) : Type := XDen t.sl t.pl
def packO (s : St) : List (Nat × Ty) → Option (List MO)
 | [] => some []
 | (i, t) :: r => match packO s r with
  | none => none
  | some os => if cnt t = 0 then some os else match s.get i with
   | some x => match cls s t x with
    | some (_, l, _) => some (l ++ os)
    | none => none
   | none => none
def isReg (own : List MO) (c q : Nat) : Bool := match own[c]? with
 | some (.reg r false) => Nat.beq r q
 | _ => false
def slotV (s : St) (own : List MO) (x : TV) (T : Ty) : Option (T.den × List RQ × Bool) := match T with
 | .ow c => match x with
  | ⟨.ow q, _⟩ => if isReg own c q then some ((), [], true) else none
  | _ => none
 | .mpv c => match x with
  | ⟨.mpv q, _⟩ => if isReg own c q then some ((), [], true) else none
  | _ => none
 | .osl c => match x with
  | ⟨.osl q, v⟩ => if isReg own c q then some (v, [], true) else none
  | _ => none
 | .oad c o => match x with
  | ⟨.oad q o', i⟩ => if isReg own c q && o == o' then some (i, [], true) else none
  | _ => none
 | .pad c o => match x with
  | ⟨.pad q o', i⟩ => if isReg own c q && o == o' then some ((), [], true) else none
  | _ => none
 | T => match cls s T x with
  | some (v, _, fr, k) => some (v, fr, k)
  | none => none
def packS (s : St) (own : List MO) : (sl : List (Nat × Ty)) → Option (SDen sl × List RQ × Bool)
 | [] => some ((), [], true)
 | (i, T) :: r => match s.get i, packS s own r with
  | some x, some (w, f2, k2) => match slotV s own x T with
   | some (v, f1, k1) => some ((v, w), f1 ++ f2, k1 && k2)
   | none => none
  | _, _ => none
def packFn (s : St) : List (Nat × Nat) → Bool
 | [] => true
 | (i, f) :: r => (match s.get i with
  | some ⟨.clo f' .unit, _⟩ => Nat.beq f' f
  | _ => false) && packFn s r
def plIn (s : St) (pl : List (Nat × Ty)) (t : Ty) : Bool := t.pls.all fun p => inPl p pl || (match pol s.pls p with
 | none => true
 | some _ => false)
def pack (n : Nat) (s : St) (t : Tpl) : Option t.X := match packO s t.sl with
 | some own => if s.n == n then match packS s own t.sl, packP s t.pl with
  | some (v, fr, k), some pv => if noDup (moRegs own) && (moPls own).isEmpty && (fr.all (RQ.off own)) && packFn s t.fn && noDup (t.pl.map (·.1)) && (t.sl.all fun b => plIn s t.pl b.2) && (t.pl.all fun b => plIn s t.pl b.2) && (fr.all fun q => match q with | .pool p => !(inPl p t.pl) | _ => true) then (bif k then some (mkX t.pl v pv) else none) else none
  | _, _ => none
  else none
 | none => none
def unS : (sl : List (Nat × Ty)) → SDen sl → Nat → List (Nat × TV)
 | [], _, _ => []
 | (i, t) :: r, v, k => (i, ⟨opnT t k, opnV t v.1 k⟩) :: unS r v.2 (k + cnt t)
def unC : (sl : List (Nat × Ty)) → SDen sl → Nat → List Cont
 | [], _, _ => []
 | (_, t) :: r, v, k => opnC t v.1 k ++ unC r v.2 (k + cnt t)
def cntL : List (Nat × Ty) → Nat
 | [] => 0
 | (_, t) :: r => cnt t + cntL r
def numb : Nat → List Cont → List (Nat × ObS)
 | _, [] => []
 | k, c :: l => (k, .live c) :: numb (k + 1) l
def unFn : List (Nat × Nat) → List (Nat × TV) → List (Nat × TV)
 | [], l => l
 | (i, f) :: r, l => (i, ⟨.clo f .unit, ()⟩) :: unFn r l
def unP : (pl : List (Nat × Ty)) → PlDen pl → List (Nat × PL)
 | [], _ => []
 | (p, t) :: r, v => (p, ⟨t, v.1⟩) :: unP r v.2
def unpack (n : Nat) (t : Tpl) (x : t.X) : St := ⟨n, unFn t.fn (unS t.sl (xS t.pl x) 0), cntL t.sl, numb 0 (unC t.sl (xS t.pl x) 0), unP t.pl (xP t.pl x)⟩
abbrev Outs : List (EK × Tpl) → Type
 | [] => Empty
 | [e] => e.2.X
 | e :: f :: r => e.2.X ⊕ Outs (f :: r)
def outPack (n : Nat) (s : St) (k : EK) : (l : List (EK × Tpl)) → Option (Outs l)
 | [] => none
 | [e] => if e.1 = k then pack n s e.2 else none
 | e :: f :: r => if e.1 = k then (pack n s e.2).map .inl else (outPack n s k (f :: r)).map .inr
def outK {R : Type} (n : Nat) (K : EK → St → Option R) : (l : List (EK × Tpl)) → Outs l → Option R
 | [], x => x.elim
 | [e], x => K e.1 (unpack n e.2 x)
 | e :: f :: r, x => match x with
  | .inl y => K e.1 (unpack n e.2 y)
  | .inr y => outK n K (f :: r) y
structure LH where
 inv : Tpl
 exits : List (EK × Tpl)
def iterN {X Y : Type} (f : X → Option (X ⊕ Y)) : Nat → X → Option Y
 | 0, _ => none
 | n + 1, x => match f x with
  | none => none
  | some (.inl y) => iterN f n y
  | some (.inr y) => some y
def firstReg : Code → Option Nat
 | .region id _ _ => some id
 | .seq a b => match firstReg a with
  | some i => some i
  | none => firstReg b
 | .cond _ a b => match firstReg a with
  | some i => some i
  | none => firstReg b
 | .block _ c => firstReg c
 | .loop c => firstReg c
 | .scope c => firstReg c
 | _ => none
def headLoops : Code → Nat
 | .seq a b => match firstReg a with
  | some _ => headLoops a
  | none => headLoops b
 | .block _ c => headLoops c
 | .loop c => headLoops c + 1
 | .scope c => headLoops c
 | _ => 0
def isEff (o : Oper) : Bool := match o.op with
 | .store .. => true
 | .mapUpdate .. => true
 | .next .. => true
 | .call { callee := .builtin .append, .. } => true
 | .call { callee := .value _, .. } => true
 | _ => false
def pureAll (s : St) (l : List Operand) : Bool := l.all fun x => match ev s x with
 | some x => x.t.pure
 | none => false
def holdAll (s : St) (l : List Operand) : Bool := l.all fun x => match ev s x with
 | some x => x.t.hold
 | none => false
def regsD : Nat → St → Ty → List Nat
 | 0, _, t => t.regs
 | n + 1, s, t => t.regs ++ t.regs.flatMap fun (r : Nat) => match s.bx r with
  | some y => regsD n s y.t
  | none => []
def deepOk : Nat → St → Ty → Bool
 | 0, _, t => t.regs.isEmpty
 | n + 1, s, t => t.regs.all fun (r : Nat) => match s.bx r with
  | some y => deepOk n s y.t
  | none => true
def depth1 (s : St) (l : List Operand) : Bool := l.all fun x => match ev s x with
 | some x => deepOk 4 s x.t
 | none => true
def isStill (o : Oper) (s : St) : Bool := match o.op with
 | .store .. => false
 | .buildSlice _ _ parts => holdAll s (parts.toList.map (·.2))
 | .makeFunc _ _ captured => pureAll s captured.toList
 | .makeMap .. => false
 | .mapUpdate .. => false
 | .entry _ => false
 | .call { callee := .builtin .append, .. } => false
 | .call { callee := .builtin .clear, .. } => false
 | .call { callee := .value fv, args, .. } => depth1 s (fv :: args.toList)
 | _ => true
def regOf : Ty → Option Nat
 | .ow r => some r
 | .osl r => some r
 | .oad r _ => some r
 | .pad r _ => some r
 | .mpv r => some r
 | _ => none
def evReg (s : St) (x : Operand) : Option Nat := match ev s x with
 | some tv => regOf tv.t
 | none => none
def evRegs (s : St) (x : Operand) : List Nat := match ev s x with
 | some tv => regsD 3 s tv.t
 | none => []
def isApp (o : Oper) : Bool := match o.op with
 | .call { callee := .builtin .append, .. } => true
 | _ => false
def opUses (s : St) (base : Nat) (o : Oper) : List Nat := o.op.operands.toList.flatMap fun x => (evRegs s x).filter fun r => Nat.ble base r
def appOwn (s : St) (base : Nat) (o : Oper) : Bool := match o.op with
 | .call { callee := .builtin .append, args, .. } => (args.toList.take 1).all fun x => match ev s x with
  | some ⟨.psl _, _⟩ => false
  | some tv => (match regOf tv.t with
   | some r => decide (base ≤ r)
   | none => true)
  | none => true
 | _ => false
def plainNK : Option NK → Bool
 | some (.pl _) | some (.clp _ _) => false
 | _ => true
def Eff.still {R : Type} (e : Eff R) (o : Oper) (s : St) : Bool := isStill o s && e.ut.isNone && e.kf
def isFresh (s : St) (id : Nat) : Bool := match ol s.objs id with
 | none => true
 | _ => false
def freshE {R : Type} (s : St) (id : Nat) (e : Eff R) : Bool := isFresh s id && Nat.ble (nkCnt e.nt) 16 && (newIds id e.nt).all (isFresh s) && (updIds (id + 16) e.ut).all (isFresh s)
def headLen (ops : Array Oper) : Option Nat :=
 if Region.lexB .any ops && ops.toList.all (fun o => match o.op with | .store .. | .next .. | .mapUpdate .. | .call { callee := .builtin .append, .. } => false | _ => true) then some ops.size else
 match ((List.range ops.size).filter fun n => (match ops[n]? with | some o => isEff o | none => false) && Region.lexTailB .any ops n).head? with
 | some n => some n
 | none => if Region.lexB .any ops then some ops.size else none
def addE (L : List Nat) (o : Oper) : Oper := { o with after := o.after ++ (L.map fun k => (⟨k, .data⟩ : Edge)).toArray }
def patchAt (n : Nat) (L : List Nat) (ops : Array Oper) : Array Oper := match ops[n]? with
 | some o => ops.setIfInBounds n (addE L o)
 | none => ops
def takesB (n : Nat) (L : List Nat) (ops : Array Oper) : List Nat → Array Bool → Bool
 | [], listed => L.all fun k => listed.getD k false
 | l :: r, listed => (match ops[l]? with
  | some o => o.guard.isNone && (match o.op with | .move _ => true | .assign _ => true | .binOp .add _ _ _ _ => true | .binOp .sub _ _ _ _ => true | _ => false)
  | none => false) && (Region.ready .any ops listed).contains l && (Region.ready .any (patchAt n L ops) listed).contains l && Region.free .any ops listed l && takesB n L ops r (listed.setIfInBounds l true)
def intTV (x : Option TV) : TV := match x with
 | some ⟨.int k, n⟩ => ⟨.int k, n⟩
 | _ => ⟨.any, ()⟩
def looseRun (ops : Array Oper) : List Nat → St → Bool
 | [], _ => true
 | l :: r, s => match ops[l]? with
  | some o => match o.op with
   | .move x => looseRun ops r (s.put o.dst (intTV (ev s x)))
   | .assign x => looseRun ops r (s.put o.dst (intTV (ev s x)))
   | .binOp .add _ x y _ => (match ev s x, ev s y with
    | some ⟨.int k, m⟩, some ⟨.int k', n⟩ => decide (k = k') && looseRun ops r (s.put o.dst ⟨.int k, k.wrap (m + n)⟩)
    | _, _ => false)
   | .binOp .sub _ x y _ => (match ev s x, ev s y with
    | some ⟨.int k, m⟩, some ⟨.int k', n⟩ => decide (k = k') && looseRun ops r (s.put o.dst ⟨.int k, k.wrap (m - n)⟩)
    | _, _ => false)
   | _ => false
  | none => false
def isWrite (o : Oper) : Bool := match o.op with
 | .store .. => true
 | .call { callee := .builtin .append, .. } => true
 | .call { callee := .builtin .clear, .. } => true
 | _ => false
def looseAt (ops : Array Oper) (n : Nat) : List Nat := (List.range n).foldr (fun k L => if (List.range (n + 1)).any fun j => decide (k < j) && Region.waitsFor .any ops j k && !(L.contains j) then L else k :: L) []
def regPatch (ops : Array Oper) : Option (Nat × List Nat) := match (List.range ops.size).find? fun n => match ops[n]? with | some o => isWrite o | none => false with
 | none => none
 | some n => match looseAt ops n with
  | [] => none
  | L => if Region.noSelect ops && decide (L.length ≤ ops.size) && takesB n L ops L (Array.replicate ops.size false) then some (n, L) else none
noncomputable def anyOf {α R : Type} (p : α → Prop) (k : α → Option R) : Option R := open Classical in if h : ∃ r, ∀ y, p y → k y = some r then some h.choose else none
theorem anyOf_some {α R : Type} {p : α → Prop} {k : α → Option R} {r : R} (h : anyOf p k = some r) {x : α} (hx : p x) : k x = some r := by
 unfold anyOf at h
 split at h
 ·rename_i hh
  cases h
  exact hh.choose_spec x hx
 ·cases h
theorem anyOf_of {α R : Type} {p : α → Prop} {k : α → Option R} {r : R} {x : α} (hx : p x) (h : ∀ y, p y → k y = some r) : anyOf p k = some r := by
 unfold anyOf
 have hh : ∃ r, ∀ y, p y → k y = some r := ⟨r, h⟩
 rw [dif_pos hh]
 rw [← h x hx, hh.choose_spec x hx]
noncomputable def onlyIf {R : Type} (p : Prop) (o : Option R) : Option R := open Classical in if p then o else none
theorem onlyIf_some {R : Type} {p : Prop} {o : Option R} {r : R} (h : onlyIf p o = some r) : p ∧ o = some r := by
 unfold onlyIf at h
 split at h
 ·exact ⟨by assumption, h⟩
 ·cases h
theorem onlyIf_of {R : Type} {p : Prop} {o : Option R} (h : p) : onlyIf p o = o := by unfold onlyIf; rw [if_pos h]
def nextS (i : Nat) : (sl : List (Nat × Ty)) → SDen sl → SDen sl
 | [], x => x
 | (j, .mit _ _) :: r, x => bif Nat.beq j i then ((x.1.1.tail, x.1.1.head?), x.2) else (x.1, nextS i r x.2)
 | (_, _) :: r, x => (x.1, nextS i r x.2)
def curS (i : Nat) : (sl : List (Nat × Ty)) → SDen sl → TV
 | [], _ => ⟨.any, ()⟩
 | (j, .mit k v) :: r, x => bif Nat.beq j i then ⟨.tup (.nxt (.int k) v), x.1.2⟩ else curS i r x.2
 | (_, _) :: r, x => curS i r x.2
def sameS (i : Nat) : (sl : List (Nat × Ty)) → SDen sl → SDen sl → Prop
 | [], _, _ => True
 | (j, .mit _ _) :: r, x, y => if Nat.beq j i = true then x.1.2 = y.1.2 ∧ x.2 = y.2 else x.1 = y.1 ∧ sameS i r x.2 y.2
 | (_, _) :: r, x, y => x.1 = y.1 ∧ sameS i r x.2 y.2
def restS (i : Nat) : (sl : List (Nat × Ty)) → SDen sl → SDen sl → Prop
 | [], _, _ => True
 | (j, .mit _ _) :: r, x, y => if Nat.beq j i = true then x.1.1 = y.1.1 else restS i r x.2 y.2
 | (_, _) :: r, x, y => restS i r x.2 y.2
def permS (i : Nat) : (sl : List (Nat × Ty)) → SDen sl → SDen sl → Prop
 | [], _, _ => True
 | (j, .mit _ _) :: r, x, y => if Nat.beq j i = true then x.1.1.Perm y.1.1 ∧ x.1.2 = y.1.2 ∧ x.2 = y.2 else x.1 = y.1 ∧ permS i r x.2 y.2
 | (_, _) :: r, x, y => x.1 = y.1 ∧ permS i r x.2 y.2
def nextX (i : Nat) {sl : List (Nat × Ty)} (pl : List (Nat × Ty)) (x : XDen sl pl) : XDen sl pl := mkX pl (nextS i sl (xS pl x)) (xP pl x)
def sameX (i : Nat) {sl : List (Nat × Ty)} (pl : List (Nat × Ty)) (x y : XDen sl pl) : Prop := sameS i sl (xS pl x) (xS pl y) ∧ xP pl x = xP pl y
def restX (i : Nat) {sl : List (Nat × Ty)} (pl : List (Nat × Ty)) (x y : XDen sl pl) : Prop := restS i sl (xS pl x) (xS pl y)
def permX (i : Nat) {sl : List (Nat × Ty)} (pl : List (Nat × Ty)) (x y : XDen sl pl) : Prop := permS i sl (xS pl x) (xS pl y) ∧ xP pl x = xP pl y
def IndepX (i : Nat) {sl : List (Nat × Ty)} (pl : List (Nat × Ty)) {Y : Type} (g : XDen sl pl → Option (XDen sl pl ⊕ Y)) : Prop :=
 ∀ z z', sameX i pl z z' → ∀ y, g z = some (.inl y) → restX i pl y z ∧ ∃ y', g z' = some (.inl y') ∧ sameX i pl y y' ∧ restX i pl y' z'
noncomputable def iterM (i : Nat) {sl : List (Nat × Ty)} (pl : List (Nat × Ty)) {Y R : Type} (g : XDen sl pl → Option (XDen sl pl ⊕ Y)) (fuel : Nat) (x : XDen sl pl) (K : Y → Option R) : Option R :=
 onlyIf (IndepX i pl g) (anyOf (permX i pl x) fun x => match iterN (fun x => g (nextX i pl x)) fuel x with
  | none => none
  | some y => K y)
def hasIt (i : Nat) : List (Nat × Ty) → Bool
 | [] => false
 | (j, t) :: r => bif Nat.beq j i then (match t with | .mit _ _ => true | _ => false) else hasIt i r
def itHead (n : Nat) (t : Tpl) : Code → Option (Nat × Nat)
 | .seq (.region _ ops false) _ => match ops.toList with
  | o :: _ => match o.op, o.dst, o.guard with
   | .next (.tmp i) false, some d, none => if hasIt i t.sl && !(t.fn.any fun p => Nat.beq p.1 i) && Nat.blt i n then some (d, i) else none
   | _, _, _ => none
  | [] => none
 | _ => none
def noDst (p : Nat) (ops : Array Oper) : Bool := ops.toList.all fun o => match o.dst with
 | some d => !(Nat.beq d p)
 | none => true
def isTail (o : Oper) : Bool := match o.op with
 | .mapUpdate .. => true
 | .call { callee := .builtin .append, .. } => true
 | _ => false
def takes1 (ops ops' : Array Oper) (listed : Array Bool) (l : Nat) : Bool := (Region.ready .any ops listed).contains l && (Region.ready .any ops' listed).contains l && Region.free .any ops listed l
def isIntT' : Ty → Bool
 | .int _ => true
 | _ => false
def hasMU (ops : Array Oper) : Bool := ops.toList.any fun o => match o.op with | .mapUpdate .. => true | _ => false
def looseOk (ops : Array Oper) (n l0 l1 l2 : Nat) (p : Nat) (m : Nat) : Bool :=
 Region.noSelect ops && (noDst p ops && (takes1 ops (patchAt n [l0, l1, l2] ops) (Array.replicate ops.size false) l0 &&
  (takes1 ops (patchAt n [l0, l1, l2] ops) ((Array.replicate ops.size false).setIfInBounds l0 true) l1 &&
  (takes1 ops (patchAt n [l0, l1, l2] ops) (((Array.replicate ops.size false).setIfInBounds l0 true).setIfInBounds l1 true) l2 &&
  (decide (3 ≤ ops.size) && (decide (l0 < ops.size ∧ l1 < ops.size ∧ l2 < ops.size) && ((patchAt n [l0, l1, l2] ops).toList.drop m).all isTail))))))
def neDst (d : Option Nat) (q : Nat) : Bool := match d with
 | some d => !(Nat.beq d q)
 | none => true
def mapLoose (tb : Tab) (s : St) (ops : Array Oper) : Option (Nat × Nat × Nat × Nat × Nat) := if !(hasMU ops) then none else
 match (List.range ops.size).find? fun n => match ops[n]? with | some o => isWrite o | none => false with
 | none => none
 | some n => match looseAt ops n with
  | [l0, l1, l2] => match ops[l0]?, ops[l1]?, ops[l2]? with
   | some ⟨d0, .move _, _, _, _, none⟩, some ⟨some d1, .fieldAddr t (.tmp p) f, _, _, _, none⟩, some ⟨_, .load T (.tmp q), _, _, _, none⟩ => match s.get p, tb.get t, tb.get T with
    | some ⟨.pad r 0, _⟩, some ⟨_, _, _, .struct fs, _, _, _⟩, some ti => match fs[f]?, s.bx r with
     | some (off, _), some y => match comp y.t off ti.sz ti.agg, headLen (patchAt n [l0, l1, l2] ops) with
      | some l, some m => if (isIntT' l.t && y.t.regs.isEmpty) && (Nat.beq q d1 && (Nat.blt d1 s.n && (neDst d0 d1 && looseOk ops n l0 l1 l2 p m))) then some (n, m, l0, l1, l2) else none
      | _, _ => none
     | _, _ => none
    | _, _, _ => none
   | _, _, _ => none
  | _ => none
section
variable (tb : Tab) (Γ : Nat → List Ctr)
def semOp {R : Type} (o : Oper) (base k : Nat) (still ap : Bool) (us : List Nat) (s : St) (K : List Nat → St → Option R) : Option R := match opD tb Γ o (base + 32 * k) s with
 | none => none
 | some e => if (still && !((e.still o s || (ap && e.ut.isNone && appOwn s base o)) && plainNK e.nt)) || !freshE s (base + 32 * k) e || (ap && still && (opUses s base o).any us.contains) then none
  else e.k.cps fun v => K (if ap && still then opUses s base o ++ us else us) (e.out o.dst (base + 32 * k) v)
def semOps {R : Type} (ops : Array Oper) (base n : Nat) (ap : Bool) : List Oper → Nat → List Nat → St → (St → Option R) → Option R
 | [], _, _, s, K => K s
 | o :: l, k, us, s, K => match o.guard with
  | none => semOp tb Γ o base k (decide (k < n)) ap us s fun us s' => semOps ops base n ap l (k + 1) us s' K
  | some (j, want) => match ops[j]?.bind (·.dst) with
   | none => none
   | some d => match s.get d with
    | some ⟨.bool, b⟩ => bif b then
      (
       if want then semOp tb Γ o base k (decide (k < n)) ap us (s.put (some d) ⟨.bool, true⟩) fun us s' => semOps ops base n ap l (k + 1) us s' K
       else semOps ops base n ap l (k + 1) us ((s.put (some d) ⟨.bool, true⟩).put o.dst ⟨.tup .unit, ()⟩) K)
     else
      (
       if want then semOps ops base n ap l (k + 1) us ((s.put (some d) ⟨.bool, false⟩).put o.dst ⟨.tup .unit, ()⟩) K
       else semOp tb Γ o base k (decide (k < n)) ap us (s.put (some d) ⟨.bool, false⟩) fun us s' => semOps ops base n ap l (k + 1) us s' K)
    | some ⟨.tup .unit, _⟩ => semOps ops base n ap l (k + 1) us (s.put o.dst ⟨.tup .unit, ()⟩) K
    | _ => none
def headApp (ops : Array Oper) (n : Nat) : Bool := (ops.toList.take n).any isApp
variable (H : Nat → Option LH) (fuel nn : Nat)
noncomputable def sem {R : Type} : Code → St → (EK → St → Option R) → Option R
 | .skip, s, K => K .normal s
 | .region _ ops draw, s, K =>
  if draw then match mapLoose tb s ops with
   | some (n, m, l0, l1, l2) => semOps tb Γ (patchAt n [l0, l1, l2] ops) s.nx m false (patchAt n [l0, l1, l2] ops).toList 0 [] (s.room (32 * (patchAt n [l0, l1, l2] ops).size)) (K .normal)
   | none => match regPatch ops with
   | none => (match headLen ops with
    | some n => semOps tb Γ ops s.nx n (headApp ops n) ops.toList 0 [] (s.room (32 * ops.size)) (K .normal)
    | none => none)
   | some (m, L) => match (if looseRun ops L (s.room (32 * (patchAt m L ops).size)) then headLen (patchAt m L ops) else none) with
    | some n => semOps tb Γ (patchAt m L ops) s.nx n (headApp (patchAt m L ops) n) (patchAt m L ops).toList 0 [] (s.room (32 * (patchAt m L ops).size)) (K .normal)
    | none => none
  else semOps tb Γ ops s.nx 0 false ops.toList 0 [] (s.room (32 * ops.size)) (K .normal)
 | .seq a b, s, K => match (match firstReg a, firstReg b with
   | some i, some j => H (1000000 + i * 10000 + j)
   | _, _ => none) with
  | some h => match sem a s (fun e s' => outPack nn s' e h.exits) with
   | none => none
   | some y => outK nn (fun e s' => match e with
    | .normal => sem b s' K
    | e => K e s') h.exits y
  | none => sem a s fun e s' => match e with
   | .normal => sem b s' K
   | e => K e s'
 | .cond c a b, s, K => match ev s c with
  | some ⟨.bool, v⟩ => bif v then sem a s K else sem b s K
  | _ => none
 | .block id c, s, K => sem c s fun e s' => match e with
  | .exit n => if n = id then K .normal s' else K (.exit n) s'
  | e => K e s'
 | .loop c, s, K => match firstReg c with
  | none => none
  | some i => match H (i + 100000 * headLoops c) with
   | none => none
   | some h => match pack nn s h.inv with
    | none => none
    | some x => match itHead nn h.inv c with
     | none => (match iterN (fun x => sem c (unpack nn h.inv x) fun e s' => match e with
       | .normal => (pack nn s' h.inv).map .inl
       | e => (outPack nn s' e h.exits).map .inr) fuel x with
      | none => none
      | some y => outK nn K h.exits y)
     | some (d, i) => match c with
      | .seq (.region _ ops _) c2 => iterM i h.inv.pl (fun x => semOps tb Γ ops (unpack nn h.inv x).nx 0 false (ops.toList.drop 1) 1 [] (((unpack nn h.inv x).room (32 * ops.size)).put (some d) (curS i h.inv.sl (xS h.inv.pl x))) fun s => sem c2 s fun e s' => match e with
        | .normal => (pack nn s' h.inv).map .inl
        | e => (outPack nn s' e h.exits).map .inr) fuel x (outK nn K h.exits)
      | _ => none
 | .exit n, s, K => K (.exit n) s
 | .scope c, s, K => none
 | .label _, s, K => K .normal s
 | .goto _, _, _ => none
 | .ret, s, K => K .ret s
 | .rangeFunc .., _, _ => none
 | .refuse _, _, _ => none
end
end Go.Vu
