/- Value semantics, part 4: what each operation does to a state of values. -/
import Derived.Test.YtfklhbmicfammaaVsState
set_option linter.unusedVariables false
namespace Go.Vs
open Go

inductive KD where
  | bool | int (k : IntKind) | str | slice (e : Nat) | struct (fs : List (Nat × Nat)) | ptr (e : Nat) | other

structure TI where
  sz : Nat
  bys : Nat
  agg : Bool
  kd : KD
  ty : Ty
  zero : ty.den
  eqb : Bool := false

abbrev Tab := List (Nat × TI)
def Tab.get : Tab → Nat → Option TI
  | [], _ => none
  | (k, i) :: r, t => if k == t then some i else Tab.get r t

abbrev ODen : Option Ty → Type
  | none => Unit
  | some t => List t.den

/- - a value that is there under a condition: as an option, and as what goes on with it -/
structure Cnd (R α : Type) where
  c : Option α
  cps : (α → Option R) → Option R
  law : ∀ K, cps K = c.bind K

variable {R : Type}
def Cnd.ret {α : Type} (v : α) : Cnd R α := ⟨some v, fun K => K v, fun _ => rfl⟩
def Cnd.look {α : Type} (o : Option α) : Cnd R α := ⟨o, fun K => match o with | some x => K x | none => none, fun K => by cases o <;> rfl⟩
def Cnd.test (b : Bool) : Cnd R Unit := ⟨bif b then some () else none, fun K => bif b then K () else none, fun K => by cases b <;> rfl⟩
def Cnd.map {α β : Type} (f : α → β) (k : Cnd R α) : Cnd R β := ⟨k.c.map f, fun K => k.cps fun a => K (f a), fun K => by rw [k.law]; cases k.c <;> rfl⟩
def Cnd.bind {α β : Type} (k : Cnd R α) (f : α → Cnd R β) : Cnd R β := ⟨k.c.bind fun a => (f a).c, fun K => k.cps fun a => (f a).cps K, fun K => by rw [k.law]; cases h : k.c <;> simp [(f _).law]⟩

structure Eff (R : Type) where
  T : Ty
  nt : Option Ty
  ut : Option Ty
  ur : Nat
  base : St
  k : Cnd R (T.den × ODen nt × ODen ut)

def setNew (s : St) (id : Nat) : (nt : Option Ty) → ODen nt → St
  | none, _ => s
  | some t, xs => s.setObj id (.live ⟨t, xs⟩)

def Eff.out (e : Eff R) (d : Option Nat) (id : Nat) (v : e.T.den × ODen e.nt × ODen e.ut) : St :=
  (setNew (setNew e.base id e.nt v.2.1) e.ur e.ut v.2.2).put d ⟨e.T, v.1⟩

def Eff.one (s : St) (T : Ty) (k : Cnd R T.den) : Eff R := ⟨T, none, none, 0, s, k.map fun v => (v, (), ())⟩
def Eff.new (s : St) (T : Ty) (t : Ty) (k : Cnd R (T.den × List t.den)) : Eff R := ⟨T, some t, none, 0, s, k.map fun v => (v.1, v.2, ())⟩
def Eff.upd (s : St) (r : Nat) (t : Ty) (k : Cnd R (List t.den)) : Eff R := ⟨.any, none, some t, r, s, k.map fun v => ((), (), v)⟩

/- operands -/
def constCells : List Value → Option TV
  | [] => some ⟨.unit, ()⟩
  | [x] => match x with
    | .bool b => some ⟨.bool, b⟩
    | .int k n => some ⟨.int k, n⟩
    | .string s => some ⟨.str, s.data.toList⟩
    | .slice none 0 0 => some ⟨.nils, ()⟩
    | .pointer none => some ⟨.nilp, ()⟩
    | _ => none
  | x :: r => match constCells r, (match x with
    | .bool b => some (⟨.bool, b⟩ : TV)
    | .int k n => some ⟨.int k, n⟩
    | .string s => some ⟨.str, s.data.toList⟩
    | .slice none 0 0 => some ⟨.nils, ()⟩
    | .pointer none => some ⟨.nilp, ()⟩
    | _ => none) with
    | some q, some p => some ⟨.pair p.t q.t, (p.v, q.v)⟩
    | _, _ => none

def constTV : Value → Option TV
  | .bool b => some ⟨.bool, b⟩
  | .int k n => some ⟨.int k, n⟩
  | .string s => some ⟨.str, s.data.toList⟩
  | .slice none 0 0 => some ⟨.nils, ()⟩
  | .pointer none => some ⟨.nilp, ()⟩
  | .agg cs => match constCells cs.toList with
    | some q => some ⟨.st q.t, q.v⟩
    | none => none
  | _ => none

def isAny : Ty → Bool
  | .any => true
  | _ => false
/- - nothing, or the mark of an operation that was passed over -/
def isNone' : Ty → Bool
  | .any => true
  | .tup .unit => true
  | _ => false

def ev (s : St) : Operand → Option TV
  | .tmp t => match s.get t with
    | some x => if isNone' x.t then none else some x
    | none => none
  | .const v => constTV v
  | .func f => some ⟨.clo f .unit, ()⟩
  | .global _ => none

/- lists -/
def lk {α : Type} (xs : List α) (i : Int) : Option α := if 0 ≤ i then xs[i.toNat]? else none

/- - a region turns to what is only read -/
def frzTV (r : Nat) (ob : OB) (x : TV) : TV := match x with
  | ⟨.ow q, _⟩ => if q == r then ⟨.slice ob.t, ob.xs⟩ else x
  | ⟨.osl q, v⟩ => if q == r then ⟨.slice ob.t, (ob.xs.drop v.1).take v.2⟩ else x
  | ⟨.oad q o, i⟩ => if q == r then match ob with
    | ⟨t, [y]⟩ => if i = 0 then ⟨.rad t o, y⟩ else ⟨.any, ()⟩
    | _ => ⟨.any, ()⟩ else x
  | x => x
def frzL (r : Nat) (ob : OB) : List (Nat × TV) → List (Nat × TV)
  | [] => []
  | (k, x) :: l => (k, frzTV r ob x) :: frzL r ob l
def St.frz (s : St) (r : Nat) (ob : OB) : St := ⟨s.n, frzL r ob s.slots, s.objs.set r .dead⟩
theorem asc_frz {r : Nat} {ob : OB} {i : Nat} : ∀ l : List (Nat × TV), asc (frzL r ob l) i = frzTV r ob (asc l i)
  | [] => rfl
  | (k, x) :: l => by
    simp only [frzL, asc]
    cases Nat.beq k i
    · exact asc_frz l
    · rfl
theorem get_frz {s : St} {r : Nat} {ob : OB} {i : Nat} : (s.frz r ob).get i = (s.get i).map (frzTV r ob) := by
  simp only [St.get, St.frz, asc_frz]
  cases Nat.blt i s.n <;> rfl

/- - a value that may lie in memory, and the state behind that -/
def toPure (s : St) (x : TV) : Option (TV × St) :=
  if x.t.pure then some (x, s) else match x with
  | ⟨.ow r, _⟩ => match s.obj r with
    | some ob => some (⟨.slice ob.t, ob.xs⟩, s.frz r ob)
    | none => none
  | ⟨.osl r, v⟩ => match s.obj r with
    | some ob => some (⟨.slice ob.t, (ob.xs.drop v.1).take v.2⟩, s.frz r ob)
    | none => none
  | ⟨.oad r o, i⟩ => match s.obj r with
    | some ⟨t, [y]⟩ => if i = 0 then some (⟨.rad t o, y⟩, s.frz r ⟨t, [y]⟩) else none
    | _ => none
  | _ => none

/- the operations -/
variable (tb : Tab)

def opMove (x : Operand) (s : St) : Option (Eff R) := match ev s x with
  | some x => some (Eff.one s x.t (.ret x.v))
  | none => none

def opPick (c a b : Operand) (s : St) : Option (Eff R) := match ev s c with
  | some ⟨.bool, cb⟩ => match ev s a, ev s b with
    | some x, some y => if h : y.t = x.t then some (Eff.one s x.t (.ret (bif cb then x.v else h ▸ y.v))) else none
    | some x, none => some (Eff.one s x.t (.look (bif cb then some x.v else none)))
    | none, some y => some (Eff.one s y.t (.look (bif cb then none else some y.v)))
    | none, none => none
  | _ => none

def opAlloc (t : Nat) (id : Nat) (s : St) : Option (Eff R) := match tb.get t with
  | some i => if i.ty.pure then some (Eff.new s (.oad id 0) i.ty (.ret ((0 : Int), [i.zero]))) else none
  | none => none

def opBox (x : Operand) (id : Nat) (s : St) : Option (Eff R) := match ev s x with
  | some x => match toPure s x with
    | some (y, s') => some (Eff.new s' (.oad id 0) y.t (.ret ((0 : Int), [y.v])))
    | none => none
  | none => none

def opLoad (t : Nat) (x : Operand) (s : St) : Option (Eff R) := match tb.get t, ev s x with
  | some i, some ⟨.oad r o, ix⟩ => match s.obj r with
    | some ob => match comp ob.t o i.sz i.agg with
      | some l => some (Eff.one s l.t ((Cnd.look (lk ob.xs ix)).map l.g))
      | none => none
    | none => none
  | some i, some ⟨.rad T o, v⟩ => match comp T o i.sz i.agg with
    | some l => if T.pure then some (Eff.one s l.t (.ret (l.g v))) else none
    | none => none
  | _, _ => none

def opStore (t : Nat) (x y : Operand) (s : St) : Option (Eff R) := match tb.get t, ev s x, ev s y with
  | some i, some ⟨.oad r o, ix⟩, some y => match toPure s y with
    | some (y, s') => match s'.obj r with
      | some ob => match comp ob.t o i.sz i.agg with
        | some l => match coe y.t y.v l.t with
          | some z => some (Eff.upd (s'.setObj r .dead) r ob.t ((Cnd.look (lk ob.xs ix)).map fun old => ob.xs.set ix.toNat (l.p old z)))
          | none => none
        | none => none
      | none => none
    | none => none
  | _, _, _ => none

def opNilCheck (x : Operand) (s : St) : Option (Eff R) := match ev s x with
  | some ⟨.oad r o, i⟩ => some (Eff.one s (.oad r o) (.ret i))
  | some ⟨.rad T o, v⟩ => some (Eff.one s (.rad T o) (.ret v))
  | some ⟨.ptr T, v⟩ => some (Eff.one s (.rad T 0) (.look v))
  | some ⟨.clo f c, v⟩ => some (Eff.one s (.clo f c) (.ret v))
  | _ => none

def fieldOff (t f : Nat) : Option (Nat × Nat) := match tb.get t with
  | some i => match i.kd with
    | .struct fs => fs[f]?
    | _ => none
  | none => none

def opFieldAddr (t : Nat) (x : Operand) (f : Nat) (s : St) : Option (Eff R) := match fieldOff tb t f, ev s x with
  | some (off, _), some ⟨.oad r o, i⟩ => some (Eff.one s (.oad r (o + off)) (.ret i))
  | some (off, _), some ⟨.rad T o, v⟩ => some (Eff.one s (.rad T (o + off)) (.ret v))
  | _, _ => none

def opField (t : Nat) (x : Operand) (f : Nat) (s : St) : Option (Eff R) := match fieldOff tb t f, ev s x with
  | some (off, ft), some ⟨.st T, v⟩ => match tb.get ft with
    | some i => match comp T off i.sz i.agg with
      | some l => if T.pure then some (Eff.one s l.t (.ret (l.g v))) else none
      | none => none
    | none => none
  | _, _ => none

def elemOf' (t : Nat) : Option TI := match tb.get t with
  | some i => match i.kd with
    | .slice e => tb.get e
    | _ => none
  | none => none

def inR (i : Int) (n : Nat) : Bool := decide (0 ≤ i) && decide (i < (n : Int))
def plusI (n : Nat) (i : Int) : Int := (n : Int) + i
def mkOk (b : Nat) (n m : Int) : Bool := decide (0 ≤ n) && (decide (n ≤ m) && decide ((b : Int) * m ≤ 140737488355328))

def opIndexAddr (t : Nat) (x ix : Operand) (s : St) : Option (Eff R) := match elemOf' tb t, ev s x, ev s ix with
  | some e, some ⟨.slice T, xs⟩, some ⟨.int _, i⟩ => if e.sz == T.size then some (Eff.one s (.rad T 0) (.look (lk xs i))) else none
  | some e, some ⟨.ow r, _⟩, some ⟨.int _, i⟩ => match s.obj r with
    | some ob => if e.sz == ob.t.size then some (Eff.one s (.oad r 0) ((Cnd.look (lk ob.xs i)).map fun _ => i)) else none
    | none => none
  | some e, some ⟨.osl r, v⟩, some ⟨.int _, i⟩ => match s.obj r with
    | some ob => if e.sz == ob.t.size then some (Eff.one s (.oad r 0) ((Cnd.test (inR i v.2)).map fun _ => plusI v.1 i)) else none
    | none => none
  | _, _, _ => none

def opIndex (t : Nat) (x ix : Operand) (s : St) : Option (Eff R) := match tb.get t, ev s x, ev s ix with
  | some ti, some ⟨.str, xs⟩, some ⟨.int _, i⟩ => match ti.kd with
    | .str => some (Eff.one s (.int .u8) ((Cnd.look (lk xs i)).map fun b => (b.toNat : Int)))
    | _ => none
  | _, _, _ => none

/- - bounds of a slice expression over n places -/
def bnd (s : St) (lo hi : Option Operand) (n : Int) : Option (Int × Int) :=
  match (match lo with
    | none => some (0 : Int)
    | some x => match ev s x with
      | some ⟨.int _, i⟩ => some i
      | _ => none), (match hi with
    | none => some n
    | some x => match ev s x with
      | some ⟨.int _, i⟩ => some i
      | _ => none) with
  | some a, some b => some (a, b)
  | _, _ => none
def inB (a b n : Int) : Bool := decide (0 ≤ a) && (decide (a ≤ b) && decide (b ≤ n))
def cut {α : Type} (xs : List α) (a b : Int) : List α := (xs.drop a.toNat).take (b - a).toNat

def opSlice (t : Nat) (x : Operand) (lo hi mx : Option Operand) (s : St) : Option (Eff R) := match mx with
  | some _ => none
  | none => match tb.get t, ev s x with
    | some ti, some ⟨.str, xs⟩ => match ti.kd, bnd s lo hi xs.length with
      | .str, some (a, b) => some (Eff.one s .str ((Cnd.test (inB a b xs.length)).map fun _ => cut xs a b))
      | _, _ => none
    | some ti, some ⟨.slice T, xs⟩ => match ti.kd, bnd s lo hi xs.length with
      | .slice e, some (a, b) => match tb.get e with
        | some te => if te.sz == T.size then some (Eff.one s (.slice T) ((Cnd.test (inB a b xs.length)).map fun _ => cut xs a b)) else none
        | none => none
      | _, _ => none
    | some ti, some ⟨.ow r, _⟩ => match s.obj r with
      | some ob => match ti.kd, bnd s lo hi ob.xs.length with
        | .slice e, some (a, b) => match tb.get e with
          | some te => if te.sz == ob.t.size then some (Eff.one s (.osl r) ((Cnd.test (inB a b ob.xs.length)).map fun _ => (a.toNat, (b - a).toNat))) else none
          | none => none
        | _, _ => none
      | none => none
    | some ti, some ⟨.osl r, v⟩ => match s.obj r with
      | some ob => match ti.kd, bnd s lo hi v.2 with
        | .slice e, some (a, b) => match tb.get e with
          | some te => if te.sz == ob.t.size then some (Eff.one s (.osl r) ((Cnd.test (inB a b ((ob.xs.length - v.1 : Nat) : Int))).map fun _ => (v.1 + a.toNat, (b - a).toNat))) else none
          | none => none
        | _, _ => none
      | none => none
    | some ti, some ⟨.nils, _⟩ => match ti.kd, bnd s lo hi 0 with
      | .slice e, some (a, b) => match tb.get e with
        | some te => some (Eff.one s .nils ((Cnd.test (inB a b 0)).map fun _ => ()))
        | none => none
      | _, _ => none
    | _, _ => none

/- - the same operand, as it is written -/
def sameOpd : Operand → Operand → Bool
  | .tmp i, .tmp j => Nat.beq i j
  | .const (.int _ a), .const (.int _ b) => decide (a = b)
  | _, _ => false
def opMakeSlice (t : Nat) (l c : Operand) (id : Nat) (s : St) : Option (Eff R) := match elemOf' tb t, ev s l, ev s c with
  | some e, some ⟨.int .i64, n⟩, some ⟨.int .i64, m⟩ =>
    if e.ty.pure && (e.ty.size == e.sz) && decide (0 < e.bys) then (if sameOpd l c then some (Eff.new s (.ow id) e.ty ((Cnd.test (mkOk e.bys n m)).map fun _ => ((), List.replicate (Int.toNat n) e.zero)))
      else some (Eff.new s (.osl id) e.ty ((Cnd.test (mkOk e.bys n m)).map fun _ => ((0, Int.toNat n), List.replicate (Int.toNat m) e.zero)))) else none
  | _, _, _ => none

/- - values one behind the other -/
def chainTV (s : St) : List Operand → Option (TV × St)
  | [] => some (⟨.unit, ()⟩, s)
  | x :: r => match ev s x with
    | some x => match toPure s x with
      | some (y, s') => if isSt y.t then none else match chainTV s' r with
        | some (q, s'') => some (⟨.pair y.t q.t, (y.v, q.v)⟩, s'')
        | none => none
      | none => none
    | none => none

def opMakeFunc (fn : Fn) (first captured : Array Operand) (s : St) : Option (Eff R) := match fn, first.toList with
  | .func f, [] => match chainTV s captured.toList with
    | some (q, s') => some (Eff.one s' (.clo f q.t) (.ret q.v))
    | none => none
  | _, _ => none

def binI (op : BinOp) (k : IntKind) (a b : Int) (s : St) : Option (Eff R) := match op with
  | .add => some (Eff.one s (.int k) (.ret (k.wrap (a + b))))
  | .sub => some (Eff.one s (.int k) (.ret (k.wrap (a - b))))
  | .mul => some (Eff.one s (.int k) (.ret (k.wrap (a * b))))
  | .quo => some (Eff.one s (.int k) ((Cnd.test (b != 0)).map fun _ => k.wrap (a.tdiv b)))
  | .rem => some (Eff.one s (.int k) ((Cnd.test (b != 0)).map fun _ => a.tmod b))
  | .and => some (Eff.one s (.int k) (.ret (k.wrap ((BitVec.ofInt k.bits a &&& BitVec.ofInt k.bits b).toNat : Int))))
  | .or => some (Eff.one s (.int k) (.ret (k.wrap ((BitVec.ofInt k.bits a ||| BitVec.ofInt k.bits b).toNat : Int))))
  | .xor => some (Eff.one s (.int k) (.ret (k.wrap ((BitVec.ofInt k.bits a ^^^ BitVec.ofInt k.bits b).toNat : Int))))
  | .andNot => some (Eff.one s (.int k) (.ret (k.wrap ((BitVec.ofInt k.bits a &&& ~~~(BitVec.ofInt k.bits b)).toNat : Int))))
  | .eql => some (Eff.one s .bool (.ret (a == b)))
  | .neq => some (Eff.one s .bool (.ret (a != b)))
  | .lss => some (Eff.one s .bool (.ret (decide (a < b))))
  | .leq => some (Eff.one s .bool (.ret (decide (a ≤ b))))
  | .gtr => some (Eff.one s .bool (.ret (decide (a > b))))
  | .geq => some (Eff.one s .bool (.ret (decide (a ≥ b))))
  | _ => none
def shI (op : BinOp) (k : IntKind) (a b : Int) (s : St) : Option (Eff R) := match op with
  | .shl => some (Eff.one s (.int k) ((Cnd.test (decide (0 ≤ b))).map fun _ => k.wrap (a * 2 ^ (min b.toNat k.bits))))
  | .shr => some (Eff.one s (.int k) ((Cnd.test (decide (0 ≤ b))).map fun _ => a.fdiv (2 ^ (min b.toNat k.bits))))
  | _ => none
def isSh : BinOp → Bool
  | .shl | .shr => true
  | _ => false
def binS (op : BinOp) (a b : List UInt8) (s : St) : Option (Eff R) := match op with
  | .add => some (Eff.one s .str ((Cnd.test (decide (a.length + b.length ≤ 9223372036854775807))).map fun _ => a ++ b))
  | .eql => some (Eff.one s .bool (.ret (a == b)))
  | .neq => some (Eff.one s .bool (.ret (!(a == b))))
  | .lss => some (Eff.one s .bool (.ret (Op.bytesLess a b)))
  | .leq => some (Eff.one s .bool (.ret (Op.bytesLess a b || a == b)))
  | .gtr => some (Eff.one s .bool (.ret (!(Op.bytesLess a b || a == b))))
  | .geq => some (Eff.one s .bool (.ret (!(Op.bytesLess a b))))
  | _ => none

/- - two values of flat types held against each other -/
def eqT : (t : Ty) → t.den → t.den → Bool
  | .int _, x, y => decide ((x : Int) = y)
  | .bool, x, y => x == y
  | .str, x, y => x == y
  | .st t, x, y => eqT t x y
  | .unit, _, _ => true
  | .pair a b, x, y => eqT a x.1 y.1 && eqT b x.2 y.2
  | _, _, _ => false

/- - whether a type's values may be held against each other, field by field -/
def eqFs (f : Nat → Ty → Bool) : List (Nat × Nat) → Ty → Nat → Bool
  | [], _, _ => false
  | [(off, t)], T, at' => off == at' && f t T
  | (off, t) :: g :: fs, .pair a b, at' => off == at' && f t a && eqFs f (g :: fs) b (at' + a.size)
  | _, _, _ => false
def eqOk (tb : Tab) : Nat → Nat → Ty → Bool
  | 0, _, _ => false
  | n + 1, t, T => match tb.get t with
    | none => false
    | some i => (i.sz == T.size) && (i.agg == isSt T) && (match i.kd, T with
      | .int k, .int k' => k == k'
      | .bool, .bool => true
      | .str, .str => true
      | .struct fs, .st T => i.eqb && eqFs (eqOk tb n) fs T 0
      | _, _ => false)

def opBin (op : BinOp) (t : Nat) (x y : Operand) (s : St) : Option (Eff R) := match ev s x, ev s y with
  | some ⟨.int k, a⟩, some ⟨.int k', b⟩ => if isSh op then shI op k a b s else if k = k' then binI op k a b s else none
  | some ⟨.str, a⟩, some ⟨.str, b⟩ => binS op a b s
  | some ⟨.bool, a⟩, some ⟨.bool, b⟩ => match tb.get t with
    | some ti => match ti.kd, op with
      | .bool, .eql => some (Eff.one s .bool (.ret (a == b)))
      | .bool, .neq => some (Eff.one s .bool (.ret (!(a == b))))
      | _, _ => none
    | none => none
  | some ⟨.st T, a⟩, some ⟨.st T', b⟩ => if h : T' = T then (if T.pure && eqOk tb 8 t (.st T) then match op with
      | .eql => some (Eff.one s .bool (.ret (eqT (.st T) a (h ▸ b))))
      | .neq => some (Eff.one s .bool (.ret (!(eqT (.st T) a (h ▸ b)))))
      | _ => none
      else none) else none
  | _, _ => none

def negI (k : IntKind) (n : Int) : Int := k.wrap (0 - n)

def opUn (op : UnOp) (x : Operand) (s : St) : Option (Eff R) := match op, ev s x with
  | .not, some ⟨.bool, b⟩ => some (Eff.one s .bool (.ret (!b)))
  | .neg, some ⟨.int k, n⟩ => some (Eff.one s (.int k) (.ret (negI k n)))
  | .xor, some ⟨.int k, n⟩ => some (Eff.one s (.int k) (.ret (k.wrap ((BitVec.ofInt k.bits (if k.signed then -1 else k.max) ^^^ BitVec.ofInt k.bits n).toNat : Int))))
  | _, _ => none

def opConv (src dst : Nat) (x : Operand) (id : Nat) (s : St) : Option (Eff R) := match tb.get src, tb.get dst, ev s x with
  | some a, some b, some ⟨.int _, n⟩ => match a.kd, b.kd with
    | .int _, .int k => some (Eff.one s (.int k) (.ret (k.wrap n)))
    | _, _ => none
  | some a, some b, some ⟨.str, l⟩ => match a.kd, b.kd with
    | .str, .str => some (Eff.one s .str (.ret l))
    | _, _ => none
  | _, _, _ => none

def opExtract (x : Operand) (i : Nat) (s : St) : Option (Eff R) := match ev s x with
  | some ⟨.tup t, v⟩ => go t v i
  | _ => none
 where go : (t : Ty) → t.den → Nat → Option (Eff R)
  | .pair a b, v, 0 => some (Eff.one s a (.ret v.1))
  | .pair a b, v, i + 1 => go b v.2 i
  | _, _, _ => none

/- what is built -/
/- - a struct's cells, field by field: a part that is given, or the zero value's -/
def fieldTVs (zero : TV) : List (Nat × Nat) → Nat → Nat → List (Nat × Operand) → St → Option (TV × St)
  | [], _, _, [], s => some (⟨.unit, ()⟩, s)
  | [], _, _, _ :: _, _ => none
  | (off, ft) :: fs, k, at', parts, s =>
    match tb.get ft with
    | none => none
    | some fi =>
      if off == at' then
        match (match parts with
          | [] => none
          | (j, x) :: r => if j == k then some (x, r) else none) with
        | some (x, r) => match ev s x with
          | some x => match toPure s x with
            | some (y, s') => if y.t.size == fi.sz then match fieldTVs zero fs (k + 1) (at' + fi.sz) r s' with
              | some (q, s'') => match fs with
                | [] => some (y, s'')
                | _ => some (⟨.pair y.t q.t, (y.v, q.v)⟩, s'')
              | none => none
              else none
            | none => none
          | none => none
        | none => match comp zero.t off fi.sz fi.agg with
          | some l => if l.t.pure then match fieldTVs zero fs (k + 1) (at' + fi.sz) parts s with
            | some (q, s'') => match fs with
              | [] => some (⟨l.t, l.g zero.v⟩, s'')
              | _ => some (⟨.pair l.t q.t, (l.g zero.v, q.v)⟩, s'')
            | none => none
            else none
          | none => none
      else none

def opBuild (t : Nat) (parts : Array (Nat × Operand)) (s : St) : Option (Eff R) := match tb.get t with
  | some i => match i.kd with
    | .struct fs => match fieldTVs tb ⟨i.ty, i.zero⟩ fs 0 0 parts.toList s with
      | some (q, s') => if q.t.size == i.sz && i.ty.size == i.sz && !(isAny i.ty) then some (Eff.one s' (.st q.t) (.ret q.v)) else none
      | none => none
    | _ => none
  | none => none

/- - a row's elements, all given, one behind the other -/
def rowTVs (t : Ty) : Nat → List (Nat × Operand) → St → Option (List t.den × St)
  | _, [], s => some ([], s)
  | k, (j, x) :: r, s => if j == k then match ev s x with
    | some x => match toPure s x with
      | some (y, s') => match coe y.t y.v t with
        | some v => match rowTVs t (k + 1) r s' with
          | some (l, s'') => some (v :: l, s'')
          | none => none
        | none => none
      | none => none
    | none => none
    else none

def opBuildSlice (t len : Nat) (parts : Array (Nat × Operand)) (id : Nat) (s : St) : Option (Eff R) := match elemOf' tb t with
  | some e => if e.ty.pure && (e.ty.size == e.sz) && (parts.size == len) && decide (len * e.sz ≤ 16777216) && decide (0 < e.sz) then match rowTVs e.ty 0 parts.toList s with
    | some (l, s') => some (Eff.new s' (.ow id) e.ty (.ret ((), l)))
    | none => none
    else none
  | none => none

/- builtins -/
def lenTV (s : St) (x : TV) : Option Int := match x with
  | ⟨.str, l⟩ => some (l.length : Int)
  | ⟨.slice _, l⟩ => some (l.length : Int)
  | ⟨.nils, _⟩ => some 0
  | ⟨.osl _, v⟩ => some (v.2 : Int)
  | ⟨.ow r, _⟩ => match s.obj r with
    | some ob => some (ob.xs.length : Int)
    | none => none
  | _ => none

def opLen (t : Nat) (x : Operand) (s : St) : Option (Eff R) := match tb.get t, ev s x with
  | some i, some x => match i.kd, isStr x.t with
    | .str, true => match lenTV s x with
      | some n => some (Eff.one s (.int .i64) (.ret n))
      | none => none
    | .slice _, false => match lenTV s x with
      | some n => some (Eff.one s (.int .i64) (.ret n))
      | none => none
    | _, _ => none
  | _, _ => none
 where isStr : Ty → Bool
  | .str => true
  | _ => false

def opCapNil (t : Nat) (x : Operand) (s : St) : Option (Eff R) := match tb.get t, ev s x with
  | some i, some ⟨.nils, _⟩ => match i.kd with
    | .slice _ => some (Eff.one s (.int .i64) (.ret 0))
    | _ => none
  | _, _ => none

def maxAll (k : IntKind) (m : Int) : List TV → Option Int
  | [] => some m
  | ⟨.int k', n⟩ :: r => if k = k' then maxAll k (if n > m then n else m) r else none
  | _ => none
def minAll (k : IntKind) (m : Int) : List TV → Option Int
  | [] => some m
  | ⟨.int k', n⟩ :: r => if k = k' then minAll k (if n < m then n else m) r else none
  | _ => none
def evs (s : St) : List Operand → Option (List TV)
  | [] => some []
  | x :: r => match ev s x, evs s r with
    | some x, some l => some (x :: l)
    | _, _ => none

def opMax (args : Array Operand) (s : St) : Option (Eff R) := match evs s args.toList with
  | some (⟨.int k, n⟩ :: r) => match maxAll k n r with
    | some m => some (Eff.one s (.int k) (.ret m))
    | none => none
  | _ => none
def opMin (args : Array Operand) (s : St) : Option (Eff R) := match evs s args.toList with
  | some (⟨.int k, n⟩ :: r) => match minAll k n r with
    | some m => some (Eff.one s (.int k) (.ret m))
    | none => none
  | _ => none

/- - the elements of a slice that is read -/
def listTV (s : St) (x : TV) : Option OB := match x with
  | ⟨.slice t, l⟩ => some ⟨t, l⟩
  | ⟨.ow r, _⟩ => s.obj r
  | ⟨.osl r, v⟩ => match s.obj r with
    | some ob => some ⟨ob.t, (ob.xs.drop v.1).take v.2⟩
    | none => none
  | _ => none

/- - the elements of a slice that is the state's own, and its region given up -/
def ownTV (s : St) (x : TV) : Option (OB × St) := match x with
  | ⟨.ow r, _⟩ => match s.obj r with
    | some ob => some (ob, s.setObj r .dead)
    | none => none
  | ⟨.osl r, v⟩ => match s.obj r with
    | some ob => some (⟨ob.t, (ob.xs.drop v.1).take v.2⟩, s.setObj r .dead)
    | none => none
  | _ => none

def isNils : Ty → Bool
  | .nils => true
  | _ => false

/- - the bytes that an append bears -/
def roomOk (n b : Nat) : Bool := decide (n * b ≤ 140737488355328)

def opAppend (argTypes : Array TypeId) (args : Array Operand) (id : Nat) (s : St) : Option (Eff R) :=
  match argTypes.toList, evs s args.toList with
  | [t, t'], some [x, y] => match elemOf' tb t, elemOf' tb t' with
    | some e, some e' => if decide (0 < e.bys) && e.ty.pure && (e.ty.size == e.sz) then
      if isNils x.t then
        if isNils y.t then some (Eff.one s .nils (.ret ()))
        else match listTV s y with
        | some oy => if oy.t.pure && (oy.t.size == e.sz) then
            some (Eff.new s (.ow id) oy.t ((Cnd.test (roomOk oy.xs.length e.bys)).map fun _ => ((), oy.xs)))
          else none
        | none => none
      else match ownTV s x with
      | some (ox, s') => if ox.t.size == e.sz then
        if isNils y.t then some (Eff.new s' (.ow id) ox.t (.ret ((), ox.xs)))
        else match listTV s y with
        | some oy => if h : oy.t = ox.t then
            some (Eff.new s' (.ow id) ox.t ((Cnd.test (roomOk (ox.xs.length + oy.xs.length) e.bys)).map fun _ => ((), ox.xs ++ (h ▸ oy.xs))))
          else none
        | none => none
        else none
      | none => none
      else none
    | _, _ => none
  | _, _ => none

/- - so many zero values behind an empty slice ('append(s, make([]T, n)...)') -/
def isIntT : List TypeId → Bool
  | [_, t'] => match tb.get t' with
    | some i => match i.kd with
      | .int _ => true
      | _ => false
    | none => false
  | _ => false
def opAppZ (argTypes : Array TypeId) (args : Array Operand) (id : Nat) (s : St) : Option (Eff R) :=
  match argTypes.toList, evs s args.toList with
  | [t, t'], some [⟨.nils, _⟩, ⟨.int .i64, n⟩] => match elemOf' tb t with
    | some e => if decide (0 < e.bys) && e.ty.pure && (e.ty.size == e.sz) && decide (0 < e.sz) then
        some (Eff.new s (.ow id) e.ty ((Cnd.test (decide (0 ≤ n) && roomOk (Int.toNat n) e.bys)).map fun _ => ((), List.replicate (Int.toNat n) e.zero)))
      else none
    | none => none
  | _, _ => none
/- - a list written over a part of another -/
def putL {α : Type} (xs : List α) (k : Nat) (ys : List α) : List α := xs.take k ++ ys ++ xs.drop (k + ys.length)
/- - an append in place: onto a part of a region, and within it -/
def opAppR (argTypes : Array TypeId) (args : Array Operand) (s : St) : Option (Eff R) :=
  match argTypes.toList, evs s args.toList with
  | [t, t'], some [⟨.osl r, v⟩, y] => match elemOf' tb t, elemOf' tb t', s.obj r with
    | some e, some _, some ob => if decide (0 < e.bys) && e.ty.pure && (e.ty.size == e.sz) && (ob.t.size == e.sz) then
        match (if isNils y.t then some ⟨ob.t, []⟩ else listTV s y) with
        | some oy => if h : oy.t = ob.t then
            some ⟨.osl r, none, some ob.t, r, s, (Cnd.test (decide (v.1 + v.2 + oy.xs.length ≤ ob.xs.length))).map fun _ => ((v.1, v.2 + oy.xs.length), (), putL ob.xs (v.1 + v.2) (h ▸ oy.xs))⟩
          else none
        | none => none
      else none
    | _, _, _ => none
  | _, _ => none
/- - appended onto a part of a region -/
def isPart (s : St) (args : List Operand) : Bool := match args with
  | x :: _ => match ev s x with
    | some ⟨.osl _, _⟩ => true
    | _ => false
  | [] => false
def opApp (argTypes : Array TypeId) (args : Array Operand) (id : Nat) (s : St) : Option (Eff R) :=
  if isIntT tb argTypes.toList then opAppZ tb argTypes args id s
  else if isPart s args.toList then opAppR tb argTypes args s else opAppend tb argTypes args id s

/- - 'clear' of a part of a region, elements of one cell -/
def clrL {α : Type} (xs : List α) (k n : Nat) (z : α) : List α := xs.take k ++ List.replicate n z ++ xs.drop (k + n)
def opClear (t : Nat) (x : Operand) (s : St) : Option (Eff R) := match elemOf' tb t, ev s x with
  | some e, some ⟨.osl r, v⟩ => match s.obj r with
    | some ob => if decide (e.sz = 1) && (!(isSt e.ty) && e.ty.pure) then
        if h : e.ty = ob.t then some (Eff.upd (s.setObj r .dead) r ob.t (.ret (clrL ob.xs v.1 v.2 (h ▸ e.zero)))) else none
      else none
    | none => none
  | _, _ => none

/- calls -/
inductive PM where
  | ro (t : Ty) | mut (t : Ty) | own (t : Ty) | mutp (t : Ty)
inductive RM where
  | val (t : Ty) | own (t : Ty)
abbrev PM.den : PM → Type
  | .ro t => t.den
  | .mut t => List t.den
  | .own t => List t.den
  | .mutp t => List t.den
abbrev RM.den : RM → Type
  | .val t => t.den
  | .own t => List t.den
abbrev PDen : List PM → Type
  | [] => Unit
  | p :: r => p.den × PDen r
abbrev RDen : List RM → Type
  | [] => Unit
  | p :: r => p.den × RDen r
def mutTy : List PM → Option Ty
  | [] => none
  | .mut t :: _ => some t
  | .mutp t :: _ => some t
  | .ro _ :: r => mutTy r
  | .own _ :: r => mutTy r
def nMut : List PM → Nat
  | [] => 0
  | .mut _ :: r => nMut r + 1
  | .mutp _ :: r => nMut r + 1
  | .ro _ :: r => nMut r
  | .own _ :: r => nMut r
def ownTy : List RM → Option Ty
  | [] => none
  | .own t :: _ => some t
  | _ :: r => ownTy r
def nOwn : List RM → Nat
  | [] => 0
  | .own _ :: r => nOwn r + 1
  | _ :: r => nOwn r
def RM.ty (id : Nat) : RM → Ty
  | .val t => t
  | .own _ => .ow id
def RM.v (id : Nat) : (m : RM) → m.den → (m.ty id).den
  | .val _, v => v
  | .own _, _ => ()
def resChain (id : Nat) : List RM → Ty
  | [] => .unit
  | m :: r => .pair (m.ty id) (resChain id r)
def resChainV (id : Nat) : (l : List RM) → RDen l → (resChain id l).den
  | [], _ => ()
  | m :: r, v => (m.v id v.1, resChainV id r v.2)
def resT (id : Nat) : List RM → Ty
  | [] => .any
  | [m] => m.ty id
  | m :: n :: r => .tup (resChain id (m :: n :: r))
def resV (id : Nat) : (l : List RM) → RDen l → (resT id l).den
  | [], _ => ()
  | [m], v => m.v id v.1
  | m :: n :: r, v => resChainV id (m :: n :: r) v
def ownV : (l : List RM) → RDen l → ODen (ownTy l)
  | [], _ => ()
  | .own _ :: _, v => v.1
  | .val _ :: r, v => ownV r v.2
def RM.flat : RM → Bool
  | .val t => t.flat
  | .own t => t.flat

structure Ctr where
  ps : List PM
  rs : List RM
  g : PDen ps → Option (ODen (mutTy ps) × RDen rs)

def PM.mutFlat : PM → Bool
  | .mut t => t.flat
  | .mutp t => t.flat
  | _ => true

/- - the arguments of a call: the values; which regions are handed in to be read; which are handed in whole (true: to be written, and had again) -/
def argsD (s : St) : (ps : List PM) → List TV → Option (PDen ps × List Nat × List (Nat × Bool))
  | [], [] => some ((), [], [])
  | .ro t :: ps, x :: xs => match argsD s ps xs with
    | none => none
    | some (r, al, mo) => if t.pure && (isSt x.t == isSt t) then match coe x.t x.v t with
      | some v => some ((v, r), al, mo)
      | none => match x with
        | ⟨.ow q, _⟩ => match s.obj q with
          | some ob => match coe (.slice ob.t) ob.xs t with
            | some v => some ((v, r), q :: al, mo)
            | none => none
          | none => none
        | ⟨.osl q, v⟩ => match s.obj q with
          | some ob => match coe (.slice ob.t) ((ob.xs.drop v.1).take v.2) t with
            | some v => some ((v, r), q :: al, mo)
            | none => none
          | none => none
        | _ => none
      else none
  | .mut t :: ps, x :: xs => match argsD s ps xs with
    | none => none
    | some (r, al, mo) => match x with
      | ⟨.ow q, _⟩ => match s.obj q with
        | some ob => if h : ob.t = t then some ((h ▸ ob.xs, r), al, (q, true) :: mo) else none
        | none => none
      | _ => none
  | .own t :: ps, x :: xs => match argsD s ps xs with
    | none => none
    | some (r, al, mo) => match x with
      | ⟨.ow q, _⟩ => match s.obj q with
        | some ob => if h : ob.t = t then some ((h ▸ ob.xs, r), al, (q, false) :: mo) else none
        | none => none
      | _ => none
  | .mutp t :: ps, x :: xs => match argsD s ps xs with
    | none => none
    | some (r, al, mo) => match x with
      | ⟨.oad q 0, _⟩ => match s.obj q with
        | some ob => if h : ob.t = t then some ((h ▸ ob.xs, r), al, (q, true) :: mo) else none
        | none => none
      | _ => none
  | _, _ => none

/- - a pointer that is handed in points to a region's only element -/
def onlyB (n : Nat) (ix : Int) : Bool := decide (n = 1) && decide (ix = 0)
def argB (s : St) (x : TV) : Bool := match x with
  | ⟨.oad q _, ix⟩ => match s.obj q with
    | some ob => onlyB ob.xs.length ix
    | none => false
  | _ => false
def argsB (s : St) : List PM → List TV → Bool
  | .mutp _ :: ps, x :: xs => argB s x && argsB s ps xs
  | .ro _ :: ps, _ :: xs => argsB s ps xs
  | .mut _ :: ps, _ :: xs => argsB s ps xs
  | .own _ :: ps, _ :: xs => argsB s ps xs
  | _, _ => true

def kills (s : St) : List (Nat × Bool) → St
  | [] => s
  | (r, _) :: l => kills (s.setObj r .dead) l
def frzs (s : St) : List Nat → St
  | [] => s
  | r :: l => match s.obj r with
    | some ob => frzs (s.frz r ob) l
    | none => frzs s l

def noDup : List Nat → Bool
  | [] => true
  | x :: l => !(l.contains x) && noDup l
def mutReg : List (Nat × Bool) → Nat
  | [] => 0
  | (r, true) :: _ => r
  | _ :: l => mutReg l

def opCall (Γ : Nat → List Ctr) (f : Nat) (xs : List TV) (id : Nat) (s : St) : Option (Eff R) := go (Γ f)
 where go : List Ctr → Option (Eff R)
  | [] => none
  | c :: cs => match argsD s c.ps xs with
    | none => go cs
    | some (v, al, mo) =>
      if noDup (mo.map (·.1)) && (al.all fun q => !((mo.map (·.1)).contains q)) && decide (nOwn c.rs ≤ 1) && decide (nMut c.ps ≤ 1) then
        some ⟨resT id c.rs, ownTy c.rs, mutTy c.ps, mutReg mo,
          (if c.rs.all RM.flat && c.ps.all PM.mutFlat then kills s mo else frzs (kills s mo) al),
          (Cnd.test (argsB s c.ps xs)).bind fun _ => (Cnd.look (c.g v)).map fun r => (resV id c.rs r.2, ownV c.rs r.2, r.1)⟩
      else none

/- - the values that a closure has -/
def unchain : (t : Ty) → t.den → Option (List TV)
  | .pair a b, v => if a.pure && !(isSt a) && a.size == 1 then match unchain b v.2 with
    | some l => some (⟨a, v.1⟩ :: l)
    | none => none
    else none
  | .unit, _ => some []
  | _, _ => none

def opD (Γ : Nat → List Ctr) (o : Oper) (id : Nat) (s : St) : Option (Eff R) := match o.op with
  | .move x | .assign x => opMove x s
  | .pick c a b => opPick c a b s
  | .alloc t => opAlloc tb t id s
  | .box _ x => opBox x id s
  | .build t parts => opBuild tb t parts s
  | .buildSlice t len parts => opBuildSlice tb t len parts id s
  | .load t a => opLoad tb t a s
  | .store t a x => opStore tb t a x s
  | .nilCheck x => opNilCheck x s
  | .binOp op t x y _ => opBin tb op t x y s
  | .unOp op _ x => opUn op x s
  | .convert a b x => opConv tb a b x id s
  | .makeFunc fn first captured => opMakeFunc fn first captured s
  | .makeSlice t l c => opMakeSlice tb t l c id s
  | .slice t x lo hi mx => opSlice tb t x lo hi mx s
  | .fieldAddr t x f => opFieldAddr tb t x f s
  | .field t x f => opField tb t x f s
  | .indexAddr t x i => opIndexAddr tb t x i s
  | .index t x i => opIndex tb t x i s
  | .extract x i => opExtract x i s
  | .call c => match c.callee with
    | .builtin .len => match c.argTypes.toList, c.args.toList with
      | [t], [x] => opLen tb t x s
      | _, _ => none
    | .builtin .cap => match c.argTypes.toList, c.args.toList with
      | [t], [x] => opCapNil tb t x s
      | _, _ => none
    | .builtin .max => opMax c.args s
    | .builtin .min => opMin c.args s
    | .builtin .append => opApp tb c.argTypes c.args id s
    | .builtin .clear => match c.argTypes.toList, c.args.toList with
      | [t], [x] => opClear tb t x s
      | _, _ => none
    | .value f => match ev s f, evs s c.args.toList with
      | some ⟨.clo f q, v⟩, some xs => match unchain q v with
        | some ys => opCall Γ f (xs ++ ys) id s
        | none => none
      | _, _ => none
    | _ => none
  | _ => none

end Go.Vs
