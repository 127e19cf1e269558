/- Value semantics, part 4: what each operation does to a state of values. -/
import Derived.Test.YtaeobljnmfbdmaaVuState
set_option linter.unusedVariables false
namespace Go.Vu
open Go
inductive KD where
  | bool | int (k : IntKind) | str | slice (e : Nat) | struct (fs : List (Nat × Nat)) | ptr (e : Nat) | arr (n e : Nat) | map (k : IntKind) (e : Nat) | other
structure TI where
  sz : Nat
  bys : Nat
  agg : Bool
  kd : KD
  ty : Ty
  zero : ty.den
  eqb : Bool := false
abbrev Tab := List (Nat × TI)
def Tab.get : Tab → Nat → Option TI
  | [], _ => none
  | (k, i) :: r, t => if k == t then some i else Tab.get r t
abbrev PlDen : List (Nat × Ty) → Type
  | [] => Unit
  | (_, t) :: r => List (Option (List t.den)) × PlDen r
inductive NK where
  | cl (t : Ty) | raw (t : Ty) | pl (t : Ty) | clp (ps : List (Nat × Ty)) (t : Ty)
abbrev NK.den : NK → Type
  | .cl t => t.den
  | .raw t => t.den
  | .pl t => List (Option (List t.den))
  | .clp ps t => PlDen ps × t.den
abbrev ODen : Option NK → Type
  | none => Unit
  | some k => k.den
def Ty.tree : Ty → Bool
  | .vec t => t.hold
  | .mpc _ t => t.hold
  | .mit _ t => t.hold
  | .iter => true
  | .bx t => t.tree
  | .st t => t.tree
  | .pair a b => a.tree && b.tree
  | t => t.hold
def cnt : Ty → Nat
  | .vec _ => 1
  | .mpc _ _ => 1
  | .mit _ _ => 1
  | .iter => 1
  | .bx t => cnt t + 1
  | .st t => cnt t
  | .pair a b => cnt a + cnt b
  | _ => 0
def opnT : Ty → Nat → Ty
  | .vec _, k => .ow k
  | .mpc _ _, k => .mpv k
  | .mit _ _, k => .pad k 0
  | .iter, k => .pad k 0
  | .bx _, k => .pad k 0
  | .st t, k => .st (opnT t k)
  | .pair a b, k => .pair (opnT a k) (opnT b (k + cnt a))
  | t, _ => t
def opnV : (t : Ty) → t.den → (k : Nat) → (opnT t k).den
  | .vec _, _, _ => ()
  | .mpc _ _, _, _ => ()
  | .mit _ _, _, _ => ()
  | .iter, _, _ => ()
  | .nxt _ _, v, _ => v
  | .bx _, _, _ => ()
  | .st t, v, k => opnV t v k
  | .pair a b, v, k => (opnV a v.1 k, opnV b v.2 (k + cnt a))
  | .int _, v, _ => v
  | .bool, v, _ => v
  | .str, v, _ => v
  | .unit, v, _ => v
  | .slice _, v, _ => v
  | .sln _, v, _ => v
  | .ptr _, v, _ => v
  | .rad _ _, v, _ => v
  | .ow _, v, _ => v
  | .osl _, v, _ => v
  | .oad _ _, v, _ => v
  | .clo _ _, v, _ => v
  | .tup _, v, _ => v
  | .nils, v, _ => v
  | .nilp, v, _ => v
  | .lost, v, _ => v
  | .any, v, _ => v
  | .mpv _, v, _ => v
  | .fmp _ _, v, _ => v
  | .psl _, v, _ => v
  | .pdd _ _, v, _ => v
  | .pad _ _, v, _ => v
def opnC : (t : Ty) → t.den → Nat → List Cont
  | .vec t, xs, _ => [.arr ⟨t, xs⟩]
  | .iter, v, _ => [.it v.1 v.2]
  | .mpc k t, v, _ => [.mp k t v]
  | .mit k t, v, _ => [.mit k t v.1 v.2]
  | .bx t, v, k => .box ⟨opnT t (k + 1), opnV t v (k + 1)⟩ :: opnC t v (k + 1)
  | .st t, v, k => opnC t v k
  | .pair a b, v, k => opnC a v.1 k ++ opnC b v.2 (k + cnt a)
  | _, _, _ => []
def putAll (s : St) : Nat → List Cont → St
  | _, [] => s
  | k, c :: l => putAll (s.setObj k (.live c)) (k + 1) l
def hget {α : Type} (l : List (Option (List α))) (h : Option (Nat × Nat × Nat)) : Option (List α) := match h with
  | none => some []
  | some u => match l[u.1]? with
   | some (some xs) => some ((xs.drop u.2.1).take u.2.2)
   | _ => none
def hgetD {α : Type} (l : List (Option (List α))) (h : Option (Nat × Nat × Nat)) : List α := match hget l h with
  | some xs => xs
  | none => []
def hok {α : Type} (l : List (Option (List α))) (h : Option (Nat × Nat × Nat)) : Bool := match hget l h with
  | some _ => true
  | none => false
def hall {α : Type} (l : List (Option (List α))) (h : Option (Nat × Nat × Nat)) : Bool := match h with
  | none => true
  | some u => match l[u.1]? with
   | some (some xs) => Nat.beq u.2.1 0 && Nat.beq u.2.2 xs.length
   | _ => false
def hset {α : Type} (l : List (Option α)) (h : Option (Nat × Nat × Nat)) (x : Option α) : List (Option α) := match h with
  | some u => l.set u.1 x
  | none => l
def hlen (h : Option (Nat × Nat × Nat)) : Nat := match h with
  | some u => u.2.2
  | none => 0
def pget {α : Type} (l : List (Option (List α))) (i : Nat) (ix : Int) : Option α := match l[i]? with
  | some (some xs) => if 0 ≤ ix then xs[ix.toNat]? else none
  | _ => none
def pset {α : Type} (l : List (Option (List α))) (i : Nat) (ix : Int) (x : α) : List (Option (List α)) := match l[i]? with
  | some (some xs) => l.set i (some (xs.set ix.toNat x))
  | _ => l
def hix {α : Type} (l : List (Option (List α))) (h : Option (Nat × Nat × Nat)) (i : Int) : Option (Nat × Int) := match h with
  | none => none
  | some u => match l[u.1]? with
   | some (some _) => if 0 ≤ i ∧ i < (u.2.2 : Int) then some (u.1, (u.2.1 : Int) + i) else none
   | _ => none
def hsl {α : Type} (l : List (Option (List α))) (h : Option (Nat × Nat × Nat)) (a b : Int) : Option (Option (Nat × Nat × Nat)) := match h with
  | none => if 0 ≤ a ∧ a ≤ b ∧ b ≤ 0 then some none else none
  | some u => match l[u.1]? with
   | some (some xs) => if 0 ≤ a ∧ a ≤ b ∧ b ≤ ((xs.length - u.2.1 : Nat) : Int) then some (some (u.1, u.2.1 + a.toNat, (b - a).toNat)) else none
   | _ => none
def shH (k : Nat) (h : Option (Nat × Nat × Nat)) : Option (Nat × Nat × Nat) := match h with
  | some u => some (u.1 + k, u.2)
  | none => none
def shV (bs : Nat → Nat) : (t : Ty) → t.den → t.den
  | .psl p, v => shH (bs p) v
  | .st t, v => shV bs t v
  | .pair a b, v => (shV bs a v.1, shV bs b v.2)
  | .vec t, v => List.map (shV bs t) v
  | .slice t, v => bif t.pure then v else List.map (shV bs t) v
  | .mpc _ t, v => List.map (fun p => (p.1, shV bs t p.2)) v
  | .mit _ t, v => (List.map (fun p => (p.1, shV bs t p.2)) v.1, v.2.map fun p => (p.1, shV bs t p.2))
  | .bx t, v => shV bs t v
  | _, v => v
def shL (bs : Nat → Nat) (t : Ty) (l : List (Option (List t.den))) : List (Option (List t.den)) := l.map fun o => o.map fun xs => xs.map (shV bs t)
def St.setPl (s : St) (p : Nat) (q : PL) : St := ⟨s.n, s.slots, s.nx, s.objs, pou s.pls p q⟩
def inPl (p : Nat) : List (Nat × Ty) → Bool
  | [] => false
  | (k, _) :: r => Nat.beq k p || inPl p r
def bsOf (s : St) (ps : List (Nat × Ty)) (p : Nat) : Nat := bif inPl p ps then (match pol s.pls p with
  | some q => q.l.length
  | none => 0) else 0
def addPls (bs : Nat → Nat) (s : St) : (ps : List (Nat × Ty)) → PlDen ps → St
  | [], _ => s
  | (p, t) :: r, v => match pol s.pls p with
   | some q => if h : q.t = t then addPls bs (s.setPl p ⟨t, (h ▸ q.l) ++ shL bs t v.1⟩) r v.2 else s
   | none => s
def noDup : List Nat → Bool
  | [] => true
  | x :: l => !(l.contains x) && noDup l
def rnOk : Ty → Bool
  | .psl _ => true
  | .st t | .vec t => rnOk t
  | .pair a b => rnOk a && rnOk b
  | t => t.pls.isEmpty
def hsH : Option (Nat × Nat × Nat) → List Nat
  | some u => [u.1]
  | none => []
def hsV (p : Nat) : (t : Ty) → t.den → List Nat
  | .psl q, v => bif Nat.beq q p then hsH v else []
  | .st t, v => hsV p t v
  | .pair a b, v => hsV p a v.1 ++ hsV p b v.2
  | .vec t, v => List.flatMap (hsV p t) v
  | _, _ => []
def rnH (f : Nat → Nat) (h : Option (Nat × Nat × Nat)) : Option (Nat × Nat × Nat) := match h with
  | some u => some (f u.1, u.2)
  | none => none
def rnV (p : Nat) (f : Nat → Nat) : (t : Ty) → t.den → t.den
  | .psl q, v => bif Nat.beq q p then rnH f v else v
  | .st t, v => rnV p f t v
  | .pair a b, v => (rnV p f a v.1, rnV p f b v.2)
  | .vec t, v => List.map (rnV p f t) v
  | _, v => v
def liveAt {α : Type} (l : List (Option α)) (i : Nat) : Bool := match l[i]? with
  | some (some _) => true
  | _ => false
def poolAt {α : Type} (l : List (Option α)) (i : Nat) : Option α := match l[i]? with
  | some o => o
  | none => none
def cnOk {α : Type} (l : List (Option α)) (L : List Nat) : Bool := noDup L && (List.range l.length).all fun i => !liveAt l i || L.contains i
def cnP : (ps : List (Nat × Ty)) → (t : Ty) → PlDen ps → t.den → PlDen ps × t.den
  | [(p, T)], t, u, v => bif T.pls.isEmpty && (rnOk t && cnOk u.1 (hsV p t v)) then (((hsV p t v).map (poolAt u.1), ()), rnV p (fun i => (hsV p t v).idxOf i) t v) else (u, v)
  | _, _, u, v => (u, v)
structure Cnd (R α : Type) where
  c : Option α
  cps : (α → Option R) → Option R
  law : ∀ K, cps K = c.bind K
variable {R : Type}
def Cnd.ret {α : Type} (v : α) : Cnd R α := ⟨some v, fun K => K v, fun _ => rfl⟩
def Cnd.look {α : Type} (o : Option α) : Cnd R α := ⟨o, fun K => match o with | some x => K x | none => none, fun K => by cases o <;> rfl⟩
def Cnd.test (b : Bool) : Cnd R Unit := ⟨bif b then some () else none, fun K => bif b then K () else none, fun K => by cases b <;> rfl⟩
def Cnd.map {α β : Type} (f : α → β) (k : Cnd R α) : Cnd R β := ⟨k.c.map f, fun K => k.cps fun a => K (f a), fun K => by rw [k.law]; cases k.c <;> rfl⟩
def Cnd.bind {α β : Type} (k : Cnd R α) (f : α → Cnd R β) : Cnd R β := ⟨k.c.bind fun a => (f a).c, fun K => k.cps fun a => (f a).cps K, fun K => by rw [k.law]; cases h : k.c <;> simp [(f _).law]⟩
structure Eff (R : Type) where
  T : Ty
  nt : Option NK
  ut : Option NK
  ur : Nat
  base : St
  kf : Bool
  k : Cnd R (T.den × ODen nt × ODen ut)
def setNK (s : St) (root fr : Nat) : (k : NK) → k.den → St
  | .cl (.vec t), xs => s.setObj root (.live (.arr ⟨t, xs⟩))
  | .cl (.bx t), v => putAll (s.setObj root (.live (.box ⟨opnT t fr, opnV t v fr⟩))) fr (opnC t v fr)
  | .cl t, v => putAll s root (opnC t v root)
  | .raw t, v => s.setObj root (.live (.box ⟨t, v⟩))
  | .pl t, l => s.setPl root ⟨t, l⟩
  | .clp ps t, v => addPls (bsOf s ps) (putAll s root (opnC t (shV (bsOf s ps) t v.2) root)) ps v.1
def setO (s : St) (root fr : Nat) : (nt : Option NK) → ODen nt → St
  | none, _ => s
  | some k, v => setNK s root fr k v
def idsFrom : Nat → Nat → List Nat
  | _, 0 => []
  | k, n + 1 => k :: idsFrom (k + 1) n
def newIds (id : Nat) : Option NK → List Nat
  | none => []
  | some (.raw _) => [id]
  | some (.cl t) => idsFrom id (cnt t)
  | some (.pl _) => []
  | some (.clp _ t) => idsFrom id (cnt t)
def updIds (id : Nat) : Option NK → List Nat
  | some (.cl (.bx t)) => idsFrom id (cnt t)
  | _ => []
def Eff.out (e : Eff R) (d : Option Nat) (id : Nat) (v : e.T.den × ODen e.nt × ODen e.ut) : St :=
  (setO (setO e.base id (id + 1) e.nt v.2.1) e.ur (id + 16) e.ut v.2.2).put d ⟨e.T, v.1⟩
def Eff.one (s : St) (T : Ty) (k : Cnd R T.den) : Eff R := ⟨T, none, none, 0, s, true, k.map fun v => (v, (), ())⟩
def Eff.new (s : St) (T : Ty) (t : Ty) (k : Cnd R (T.den × List t.den)) : Eff R := ⟨T, some (.cl (.vec t)), none, 0, s, true, k.map fun v => (v.1, v.2, ())⟩
def Eff.nbox (s : St) (T : Ty) (t : Ty) (k : Cnd R (T.den × t.den)) : Eff R := ⟨T, some (.raw t), none, 0, s, true, k.map fun v => (v.1, v.2, ())⟩
def Eff.upd (s : St) (r : Nat) (t : Ty) (k : Cnd R (List t.den)) : Eff R := ⟨.any, none, some (.cl (.vec t)), r, s, false, k.map fun v => ((), (), v)⟩
def Eff.ubox (s : St) (r : Nat) (t : Ty) (k : Cnd R t.den) : Eff R := ⟨.any, none, some (.raw t), r, s, false, k.map fun v => ((), (), v)⟩
def nilT : Ty → Ty
  | .slice _ => .nils
  | .ptr _ => .nilp
  | .st t => .st (nilT t)
  | .pair a b => .pair (nilT a) (nilT b)
  | t => t
def nilV : (t : Ty) → t.den → (nilT t).den
  | .slice _, _ => ()
  | .sln _, v => v
  | .ptr _, _ => ()
  | .st t, v => nilV t v
  | .pair a b, v => (nilV a v.1, nilV b v.2)
  | .int _, v => v
  | .bool, v => v
  | .str, v => v
  | .unit, v => v
  | .rad _ _, v => v
  | .ow _, v => v
  | .osl _, v => v
  | .oad _ _, v => v
  | .clo _ _, v => v
  | .tup _, v => v
  | .nils, v => v
  | .nilp, v => v
  | .any, v => v
  | .psl _, v => v
  | .pdd _ _, v => v
  | .pad _ _, v => v
  | .vec _, v => v
  | .iter, v => v
  | .nxt _ _, v => v
  | .bx _, v => v
  | .lost, v => v
  | .mpv _, v => v
  | .fmp _ _, v => v
  | .mpc _ _, v => v
  | .mit _ _, v => v
def constCells : List Value → Option TV
  | [] => some ⟨.unit, ()⟩
  | [x] => match x with
   | .bool b => some ⟨.bool, b⟩
   | .int k n => some ⟨.int k, n⟩
   | .string s => some ⟨.str, s.data.toList⟩
   | .slice none 0 0 => some ⟨.nils, ()⟩
   | .pointer none => some ⟨.nilp, ()⟩
   | _ => none
  | x :: r => match constCells r, (match x with
   | .bool b => some (⟨.bool, b⟩ : TV)
   | .int k n => some ⟨.int k, n⟩
   | .string s => some ⟨.str, s.data.toList⟩
   | .slice none 0 0 => some ⟨.nils, ()⟩
   | .pointer none => some ⟨.nilp, ()⟩
   | _ => none) with
   | some q, some p => some ⟨.pair p.t q.t, (p.v, q.v)⟩
   | _, _ => none
def constTV : Value → Option TV
  | .bool b => some ⟨.bool, b⟩
  | .int k n => some ⟨.int k, n⟩
  | .string s => some ⟨.str, s.data.toList⟩
  | .slice none 0 0 => some ⟨.nils, ()⟩
  | .pointer none => some ⟨.nilp, ()⟩
  | .map none => some ⟨.lost, ()⟩
  | .agg cs => match constCells cs.toList with
   | some q => some ⟨.st q.t, q.v⟩
   | none => none
  | _ => none
def isAny : Ty → Bool
  | .any => true
  | _ => false
def isNone' : Ty → Bool
  | .any => true
  | .tup .unit => true
  | _ => false
def ev (s : St) : Operand → Option TV
  | .tmp t => match s.get t with
   | some x => if isNone' x.t then none else some x
   | none => none
  | .const v => constTV v
  | .func f => some ⟨.clo f .unit, ()⟩
  | .global _ => none
def lk {α : Type} (xs : List α) (i : Int) : Option α := if 0 ≤ i then xs[i.toNat]? else none
inductive Tn where
  | frz (c : Cont) | ado (p i n : Nat)
def frzC (r : Nat) (c : Tn) (x : TV) : TV := match c with
  | .ado p i n => (match x with
   | ⟨.ow q, _⟩ => if q == r then ⟨.psl p, some (i, 0, n)⟩ else x
   | ⟨.osl q, v⟩ => if q == r then ⟨.psl p, some (i, v)⟩ else x
   | ⟨.oad q o, v⟩ => if q == r then ⟨.pdd p o, (i, v)⟩ else x
   | x => x)
  | .frz (.arr ob) => (match x with
   | ⟨.ow q, _⟩ => if q == r then ⟨.slice ob.t, ob.xs⟩ else x
   | ⟨.osl q, v⟩ => if q == r then ⟨.slice ob.t, (ob.xs.drop v.1).take v.2⟩ else x
   | x => x)
  | .frz (.box y) => (match x with
   | ⟨.pad q o, _⟩ => if q == r then ⟨.rad y.t o, y.v⟩ else x
   | x => x)
  | .frz (.it _ _) => x
  | .frz (.mp _ _ _) => x
  | .frz (.mit _ _ _ _) => x
def frzD (r : Nat) (c : Tn) : (t : Ty) → t.den → TV
  | .st t, v => ⟨.st (frzD r c t v).t, (frzD r c t v).v⟩
  | .pair a b, v => ⟨.pair (frzD r c a v.1).t (frzD r c b v.2).t, ((frzD r c a v.1).v, (frzD r c b v.2).v)⟩
  | .clo f t, v => ⟨.clo f (frzD r c t v).t, (frzD r c t v).v⟩
  | .tup t, v => ⟨.tup (frzD r c t v).t, (frzD r c t v).v⟩
  | t, v => frzC r c ⟨t, v⟩
def frzX (r : Nat) (c : Tn) (x : TV) : TV := bif x.t.regs.contains r then frzD r c x.t x.v else x
def frzL (r : Nat) (c : Tn) : List (Nat × TV) → List (Nat × TV)
  | [] => []
  | (k, x) :: l => (k, frzX r c x) :: frzL r c l
def frzO1 (r : Nat) (c : Tn) : ObS → ObS
  | .live (.box y) => .live (.box (frzX r c y))
  | o => o
def frzO (r : Nat) (c : Tn) : List (Nat × ObS) → List (Nat × ObS)
  | [] => []
  | (k, x) :: l => (k, frzO1 r c x) :: frzO r c l
def St.frz (s : St) (r : Nat) (c : Tn) : St := ⟨s.n, frzL r c s.slots, s.nx, ou (frzO r c s.objs) r .dead, s.pls⟩
theorem asc_frz {r : Nat} {c : Tn} {i : Nat} : ∀ l : List (Nat × TV), asc (frzL r c l) i = frzX r c (asc l i)
  | [] => rfl
  | (k, x) :: l => by
   simp only [frzL, asc]
   cases Nat.beq k i
   ·exact asc_frz l
   ·rfl
theorem get_frz {s : St} {r : Nat} {c : Tn} {i : Nat} : (s.frz r c).get i = (s.get i).map (frzX r c) := by
  simp only [St.get, St.frz, asc_frz]
  cases Nat.blt i s.n <;> rfl
theorem ol_frzO {r : Nat} {c : Tn} {q : Nat} : ∀ l : List (Nat × ObS), ol (frzO r c l) q = (ol l q).map (frzO1 r c)
  | [] => rfl
  | (k, x) :: l => by
   simp only [frzO, ol]
   cases Nat.beq k q
   ·exact ol_frzO l
   ·rfl
theorem ol_frz {s : St} {r : Nat} {c : Tn} {q : Nat} : ol (s.frz r c).objs q = if r = q then some .dead else (ol s.objs q).map (frzO1 r c) := by
  simp only [St.frz, ol_ou, ol_frzO]
def frzC1 (r : Nat) (c : Tn) : Cont → Cont
  | .box y => .box (frzX r c y)
  | o => o
theorem cont_frz {s : St} {r : Nat} {c : Tn} {q : RK} : (s.frz r c).cont q = if (r : RK) = q then none else (s.cont q).map (frzC1 r c) := by
  cases q with
  | pl p i =>
   simp only [St.cont, St.frz, reduceCtorEq, if_false]
   cases pol s.pls p with
   | none => rfl
   | some q =>
    simp only [PL.cont]
    split <;> rfl
  | reg q =>
   simp only [St.cont, ol_frz, RK.reg.injEq]
   by_cases e : r = q
   ·simp [e]
   ·simp only [if_neg e]
    cases ol s.objs q with
    | none => rfl
    | some o =>
     cases o with
     | dead => rfl
     | live c' => cases c' <;> rfl
def findF (s : St) : Nat → Ty → Option Nat
  | 0, _ => none
  | n + 1, t => match t.regs with
   | [] => none
   | r :: _ => match s.cont r with
    | some (.arr _) => some r
    | some (.box y) => if y.t.pure then some r else findF s n y.t
    | _ => none
def toPureN : Nat → St → TV → Option (TV × St)
  | 0, _, _ => none
  | n + 1, s, x => if x.t.pure then some (x, s) else match findF s 8 x.t with
   | none => none
   | some r => match s.cont r with
    | some c => toPureN n (s.frz r (.frz c)) (frzX r (.frz c) x)
    | none => none
def toPure (s : St) (x : TV) : Option (TV × St) := toPureN 16 s x
def St.ado (s : St) (r p : Nat) (q : PL) (xs : List q.t.den) : St := (s.frz r (.ado p q.l.length xs.length)).setPl p ⟨q.t, q.l ++ [some xs]⟩
def fpl (t : Ty) : List (Nat × PL) → Option Nat
  | [] => none
  | (p, q) :: r => if q.t = t then some p else fpl t r
def toHoldN : Nat → St → TV → Option (TV × St)
  | 0, _, _ => none
  | n + 1, s, x => if x.t.hold then some (x, s) else match findF s 8 x.t with
   | none => none
   | some r => match s.cont r with
    | some (.arr ob) => match fpl ob.t s.pls with
     | some p => match pol s.pls p with
      | some q => if h : ob.t = q.t then toHoldN n (s.ado r p q (h ▸ ob.xs)) (frzX r (.ado p q.l.length ob.xs.length) x) else none
      | none => none
     | none => toHoldN n (s.frz r (.frz (.arr ob))) (frzX r (.frz (.arr ob)) x)
    | some c => toHoldN n (s.frz r (.frz c)) (frzX r (.frz c) x)
    | none => none
def toHold (s : St) (x : TV) : Option (TV × St) := toHoldN 16 s x
variable (tb : Tab)
def opMove (x : Operand) (s : St) : Option (Eff R) := match ev s x with
  | some x => some (Eff.one s x.t (.ret x.v))
  | none => none
def opPick (c a b : Operand) (s : St) : Option (Eff R) := match ev s c with
  | some ⟨.bool, cb⟩ => match ev s a, ev s b with
   | some x, some y => if h : y.t = x.t then some (Eff.one s x.t (.ret (bif cb then x.v else h ▸ y.v))) else none
   | some x, none => some (Eff.one s x.t (.look (bif cb then some x.v else none)))
   | none, some y => some (Eff.one s y.t (.look (bif cb then none else some y.v)))
   | none, none => none
  | _ => none
def opAlloc (t : Nat) (id : Nat) (s : St) : Option (Eff R) := match tb.get t with
  | some i => if i.ty.pure then some (Eff.nbox s (.pad id 0) (nilT i.ty) (.ret ((), nilV i.ty i.zero))) else none
  | none => none
def opBox (x : Operand) (id : Nat) (s : St) : Option (Eff R) := match ev s x with
  | some x => if x.t.cell then some (Eff.nbox s (.pad id 0) x.t (.ret ((), x.v))) else none
  | none => none
def opLoad (t : Nat) (x : Operand) (s : St) : Option (Eff R) := match tb.get t, ev s x with
  | some i, some ⟨.oad r o, ix⟩ => match s.obj r with
   | some ob => match comp ob.t o i.sz i.agg with
    | some l => some (Eff.one s l.t ((Cnd.look (lk ob.xs ix)).map l.g))
    | none => none
   | none => none
  | some i, some ⟨.rad T o, v⟩ => match comp T o i.sz i.agg with
   | some l => if T.hold then some (Eff.one s l.t (.ret (l.g v))) else none
   | none => none
  | some i, some ⟨.pad r o, _⟩ => match s.bx r with
   | some y => match comp y.t o i.sz i.agg with
    | some l => some (Eff.one s l.t (.ret (l.g y.v)))
    | none => none
   | none => none
  | some i, some ⟨.pdd p o, v⟩ => match pol s.pls p with
   | some q => match comp q.t o i.sz i.agg with
    | some l => some (Eff.one s l.t ((Cnd.look (pget q.l v.1 v.2)).map l.g))
    | none => none
   | none => none
  | _, _ => none
def opStore (t : Nat) (x y : Operand) (s : St) : Option (Eff R) := match tb.get t, ev s x, ev s y with
  | some i, some ⟨.pdd p o, v⟩, some y => match toHold s y with
   | some (y, s') => match pol s'.pls p with
    | some q => match comp q.t o i.sz i.agg with
     | some l => match coe y.t y.v l.t with
      | some z => some ⟨.any, none, some (.pl q.t), p, s', false, (Cnd.look (pget q.l v.1 v.2)).map fun old => ((), (), pset q.l v.1 v.2 (l.p old z))⟩
      | none => none
     | none => none
    | none => none
   | none => none
  | some i, some ⟨.oad r o, ix⟩, some y => match toHold s y with
   | some (y, s') => match s'.obj r with
    | some ob => match comp ob.t o i.sz i.agg with
     | some l => match coe y.t y.v l.t with
      | some z => some (Eff.upd (s'.setObj r .dead) r ob.t ((Cnd.look (lk ob.xs ix)).map fun old => ob.xs.set ix.toNat (l.p old z)))
      | none => none
     | none => none
    | none => none
   | none => none
  | some i, some ⟨.pad r o, _⟩, some y => match s.bx r with
   | some b => match repl b.t b.v o i.sz i.agg y with
    | some z => if y.t.cell then some (Eff.ubox (s.setObj r .dead) r z.t (.ret z.v)) else none
    | none => none
   | none => none
  | _, _, _ => none
def opNilCheck (x : Operand) (s : St) : Option (Eff R) := match ev s x with
  | some ⟨.oad r o, i⟩ => some (Eff.one s (.oad r o) (.ret i))
  | some ⟨.pdd p o, i⟩ => some (Eff.one s (.pdd p o) (.ret i))
  | some ⟨.rad T o, v⟩ => some (Eff.one s (.rad T o) (.ret v))
  | some ⟨.pad r o, v⟩ => some (Eff.one s (.pad r o) (.ret v))
  | some ⟨.ptr T, v⟩ => some (Eff.one s (.rad T 0) (.look v))
  | some ⟨.clo f c, v⟩ => some (Eff.one s (.clo f c) (.ret v))
  | _ => none
def fieldOff (t f : Nat) : Option (Nat × Nat) := match tb.get t with
  | some i => match i.kd with
   | .struct fs => fs[f]?
   | _ => none
  | none => none
def opFieldAddr (t : Nat) (x : Operand) (f : Nat) (s : St) : Option (Eff R) := match fieldOff tb t f, ev s x with
  | some (off, _), some ⟨.oad r o, i⟩ => some (Eff.one s (.oad r (o + off)) (.ret i))
  | some (off, _), some ⟨.pdd p o, i⟩ => some (Eff.one s (.pdd p (o + off)) (.ret i))
  | some (off, _), some ⟨.rad T o, v⟩ => some (Eff.one s (.rad T (o + off)) (.ret v))
  | some (off, _), some ⟨.pad r o, v⟩ => some (Eff.one s (.pad r (o + off)) (.ret v))
  | _, _ => none
def opField (t : Nat) (x : Operand) (f : Nat) (s : St) : Option (Eff R) := match fieldOff tb t f, ev s x with
  | some (off, ft), some ⟨.st T, v⟩ => match tb.get ft with
   | some i => match comp T off i.sz i.agg with
    | some l => if T.cell then some (Eff.one s l.t (.ret (l.g v))) else none
    | none => none
   | none => none
  | _, _ => none
def elemOf' (t : Nat) : Option TI := match tb.get t with
  | some i => match i.kd with
   | .slice e => tb.get e
   | _ => none
  | none => none
def inR (i : Int) (n : Nat) : Bool := decide (0 ≤ i) && decide (i < (n : Int))
def plusI (n : Nat) (i : Int) : Int := (n : Int) + i
def mkOk (b : Nat) (n m : Int) : Bool := decide (0 ≤ n) && (decide (n ≤ m) && decide ((b : Int) * m ≤ 140737488355328))
def opIndexAddrS (t : Nat) (x ix : Operand) (s : St) : Option (Eff R) := match elemOf' tb t, ev s x, ev s ix with
  | some e, some ⟨.slice T, xs⟩, some ⟨.int _, i⟩ => if e.sz == T.size then some (Eff.one s (.rad T 0) (.look (lk xs i))) else none
  | some e, some ⟨.ow r, _⟩, some ⟨.int _, i⟩ => match s.obj r with
   | some ob => if e.sz == ob.t.size then some (Eff.one s (.oad r 0) ((Cnd.look (lk ob.xs i)).map fun _ => i)) else none
   | none => none
  | some e, some ⟨.osl r, v⟩, some ⟨.int _, i⟩ => match s.obj r with
   | some ob => if e.sz == ob.t.size then some (Eff.one s (.oad r 0) ((Cnd.test (inR i v.2)).map fun _ => plusI v.1 i)) else none
   | none => none
  | some e, some ⟨.psl p, v⟩, some ⟨.int _, i⟩ => match pol s.pls p with
   | some q => if e.sz == q.t.size then some (Eff.one s (.pdd p 0) (Cnd.look (hix q.l v i))) else none
   | none => none
  | _, _, _ => none
def arrOf (t : Nat) : Option (Nat × TI × Nat) := match tb.get t with
  | some i => match i.kd with
   | .arr n e => match tb.get e with
    | some ei => some (n, ei, e)
    | none => none
   | _ => none
  | none => none
def opIndexArr (n sz : Nat) (x ix : Operand) (s : St) : Option (Eff R) := match ev s x, ix with
  | some ⟨.pad r o, v⟩, .const (.int _ i) => if decide (0 ≤ i) && decide (i < (n : Int)) then some (Eff.one s (.pad r (o + i.toNat * sz)) (.ret v)) else none
  | some ⟨.rad T o, v⟩, .const (.int _ i) => if decide (0 ≤ i) && decide (i < (n : Int)) then some (Eff.one s (.rad T (o + i.toNat * sz)) (.ret v)) else none
  | _, _ => none
def opIndexAddr (t : Nat) (x ix : Operand) (s : St) : Option (Eff R) := match arrOf tb t with
  | some (n, ei, _) => opIndexArr n ei.sz x ix s
  | none => opIndexAddrS tb t x ix s
def opIndex (t : Nat) (x ix : Operand) (s : St) : Option (Eff R) := match tb.get t, ev s x, ev s ix with
  | some ti, some ⟨.str, xs⟩, some ⟨.int _, i⟩ => match ti.kd with
   | .str => some (Eff.one s (.int .u8) ((Cnd.look (lk xs i)).map fun b => (b.toNat : Int)))
   | _ => none
  | some ti, some ⟨.st T, v⟩, some ⟨.int _, _⟩ => match ti.kd, ix with
   | .arr n e, .const (.int _ i) => match tb.get e with
    | some ei => match comp T (i.toNat * ei.sz) ei.sz ei.agg with
     | some l => if decide (0 ≤ i) && decide (i < (n : Int)) && T.cell then some (Eff.one s l.t (.ret (l.g v))) else none
     | none => none
    | none => none
   | _, _ => none
  | _, _, _ => none
def bnd (s : St) (lo hi : Option Operand) (n : Int) : Option (Int × Int) :=
  match (match lo with
   | none => some (0 : Int)
   | some x => match ev s x with
    | some ⟨.int _, i⟩ => some i
    | _ => none), (match hi with
   | none => some n
   | some x => match ev s x with
    | some ⟨.int _, i⟩ => some i
    | _ => none) with
  | some a, some b => some (a, b)
  | _, _ => none
def inB (a b n : Int) : Bool := decide (0 ≤ a) && (decide (a ≤ b) && decide (b ≤ n))
def cut {α : Type} (xs : List α) (a b : Int) : List α := (xs.drop a.toNat).take (b - a).toNat
def opSlice (t : Nat) (x : Operand) (lo hi mx : Option Operand) (s : St) : Option (Eff R) := match mx with
  | some _ => none
  | none => match tb.get t, ev s x with
   | some ti, some ⟨.str, xs⟩ => match ti.kd, bnd s lo hi xs.length with
    | .str, some (a, b) => some (Eff.one s .str ((Cnd.test (inB a b xs.length)).map fun _ => cut xs a b))
    | _, _ => none
   | some ti, some ⟨.slice T, xs⟩ => match ti.kd, bnd s lo hi xs.length with
    | .slice e, some (a, b) => match tb.get e with
     | some te => if te.sz == T.size then some (Eff.one s (.slice T) ((Cnd.test (inB a b xs.length)).map fun _ => cut xs a b)) else none
     | none => none
    | _, _ => none
   | some ti, some ⟨.ow r, _⟩ => match s.obj r with
    | some ob => match ti.kd, bnd s lo hi ob.xs.length with
     | .slice e, some (a, b) => match tb.get e with
      | some te => if te.sz == ob.t.size then some (Eff.one s (.osl r) ((Cnd.test (inB a b ob.xs.length)).map fun _ => (a.toNat, (b - a).toNat))) else none
      | none => none
     | _, _ => none
    | none => none
   | some ti, some ⟨.osl r, v⟩ => match s.obj r with
    | some ob => match ti.kd, bnd s lo hi v.2 with
     | .slice e, some (a, b) => match tb.get e with
      | some te => if te.sz == ob.t.size then some (Eff.one s (.osl r) ((Cnd.test (inB a b ((ob.xs.length - v.1 : Nat) : Int))).map fun _ => (v.1 + a.toNat, (b - a).toNat))) else none
      | none => none
     | _, _ => none
    | none => none
   | some ti, some ⟨.psl p, v⟩ => match pol s.pls p with
    | some q => match ti.kd, bnd s lo hi (hlen v) with
     | .slice e, some (a, b) => match tb.get e with
      | some te => if te.sz == q.t.size then some (Eff.one s (.psl p) (Cnd.look (hsl q.l v a b))) else none
      | none => none
     | _, _ => none
    | none => none
   | some ti, some ⟨.nils, _⟩ => match ti.kd, bnd s lo hi 0 with
    | .slice e, some (a, b) => match tb.get e with
     | some te => some (Eff.one s .nils ((Cnd.test (inB a b 0)).map fun _ => ()))
     | none => none
    | _, _ => none
   | _, _ => none
def sameOpd : Operand → Operand → Bool
  | .tmp i, .tmp j => Nat.beq i j
  | .const (.int _ a), .const (.int _ b) => decide (a = b)
  | _, _ => false
def opMakeSlice (t : Nat) (l c : Operand) (id : Nat) (s : St) : Option (Eff R) := match elemOf' tb t, ev s l, ev s c with
  | some e, some ⟨.int .i64, n⟩, some ⟨.int .i64, m⟩ =>
   if e.ty.pure && (e.ty.size == e.sz) && decide (0 < e.bys) then (if sameOpd l c then some (Eff.new s (.ow id) e.ty ((Cnd.test (mkOk e.bys n m)).map fun _ => ((), List.replicate (Int.toNat n) e.zero)))
    else some (Eff.new s (.osl id) e.ty ((Cnd.test (mkOk e.bys n m)).map fun _ => ((0, Int.toNat n), List.replicate (Int.toNat m) e.zero)))) else none
  | _, _, _ => none
def chainTV (s : St) : List Operand → Option (TV × St)
  | [] => some (⟨.unit, ()⟩, s)
  | x :: r => match ev s x with
   | some x => match toPure s x with
    | some (y, s') => if isSt y.t then none else match chainTV s' r with
     | some (q, s'') => some (⟨.pair y.t q.t, (y.v, q.v)⟩, s'')
     | none => none
    | none => if isSt x.t || !x.t.cell then none else match chainTV s r with
     | some (q, s'') => some (⟨.pair x.t q.t, (x.v, q.v)⟩, s'')
     | none => none
   | none => none
def opMakeFunc (fn : Fn) (first captured : Array Operand) (s : St) : Option (Eff R) := match fn, first.toList with
  | .func f, [] => match chainTV s captured.toList with
   | some (q, s') => some (Eff.one s' (.clo f q.t) (.ret q.v))
   | none => none
  | _, _ => none
def binI (op : BinOp) (k : IntKind) (a b : Int) (s : St) : Option (Eff R) := match op with
  | .add => some (Eff.one s (.int k) (.ret (k.wrap (a + b))))
  | .sub => some (Eff.one s (.int k) (.ret (k.wrap (a - b))))
  | .mul => some (Eff.one s (.int k) (.ret (k.wrap (a * b))))
  | .quo => some (Eff.one s (.int k) ((Cnd.test (b != 0)).map fun _ => k.wrap (a.tdiv b)))
  | .rem => some (Eff.one s (.int k) ((Cnd.test (b != 0)).map fun _ => a.tmod b))
  | .and => some (Eff.one s (.int k) (.ret (k.wrap ((BitVec.ofInt k.bits a &&& BitVec.ofInt k.bits b).toNat : Int))))
  | .or => some (Eff.one s (.int k) (.ret (k.wrap ((BitVec.ofInt k.bits a ||| BitVec.ofInt k.bits b).toNat : Int))))
  | .xor => some (Eff.one s (.int k) (.ret (k.wrap ((BitVec.ofInt k.bits a ^^^ BitVec.ofInt k.bits b).toNat : Int))))
  | .andNot => some (Eff.one s (.int k) (.ret (k.wrap ((BitVec.ofInt k.bits a &&& ~~~(BitVec.ofInt k.bits b)).toNat : Int))))
  | .eql => some (Eff.one s .bool (.ret (a == b)))
  | .neq => some (Eff.one s .bool (.ret (a != b)))
  | .lss => some (Eff.one s .bool (.ret (decide (a < b))))
  | .leq => some (Eff.one s .bool (.ret (decide (a ≤ b))))
  | .gtr => some (Eff.one s .bool (.ret (decide (a > b))))
  | .geq => some (Eff.one s .bool (.ret (decide (a ≥ b))))
  | _ => none
def shI (op : BinOp) (k : IntKind) (a b : Int) (s : St) : Option (Eff R) := match op with
  | .shl => some (Eff.one s (.int k) ((Cnd.test (decide (0 ≤ b))).map fun _ => k.wrap (a * 2 ^ (min b.toNat k.bits))))
  | .shr => some (Eff.one s (.int k) ((Cnd.test (decide (0 ≤ b))).map fun _ => a.fdiv (2 ^ (min b.toNat k.bits))))
  | _ => none
def isSh : BinOp → Bool
  | .shl | .shr => true
  | _ => false
def binS (op : BinOp) (a b : List UInt8) (s : St) : Option (Eff R) := match op with
  | .add => some (Eff.one s .str ((Cnd.test (decide (a.length + b.length ≤ 9223372036854775807))).map fun _ => a ++ b))
  | .eql => some (Eff.one s .bool (.ret (a == b)))
  | .neq => some (Eff.one s .bool (.ret (!(a == b))))
  | .lss => some (Eff.one s .bool (.ret (Op.bytesLess a b)))
  | .leq => some (Eff.one s .bool (.ret (Op.bytesLess a b || a == b)))
  | .gtr => some (Eff.one s .bool (.ret (!(Op.bytesLess a b || a == b))))
  | .geq => some (Eff.one s .bool (.ret (!(Op.bytesLess a b))))
  | _ => none
def eqT : (t : Ty) → t.den → t.den → Bool
  | .int _, x, y => decide ((x : Int) = y)
  | .bool, x, y => x == y
  | .str, x, y => x == y
  | .st t, x, y => eqT t x y
  | .unit, _, _ => true
  | .pair a b, x, y => eqT a x.1 y.1 && eqT b x.2 y.2
  | _, _, _ => false
def eqFs (f : Nat → Ty → Bool) : List (Nat × Nat) → Ty → Nat → Bool
  | [], _, _ => false
  | [(off, t)], T, at' => off == at' && f t T
  | (off, t) :: g :: fs, .pair a b, at' => off == at' && f t a && eqFs f (g :: fs) b (at' + a.size)
  | _, _, _ => false
def eqOk (tb : Tab) : Nat → Nat → Ty → Bool
  | 0, _, _ => false
  | n + 1, t, T => match tb.get t with
   | none => false
   | some i => (i.sz == T.size) && (i.agg == isSt T) && (match i.kd, T with
    | .int k, .int k' => k == k'
    | .bool, .bool => true
    | .str, .str => true
    | .struct fs, .st T => i.eqb && eqFs (eqOk tb n) fs T 0
    | _, _ => false)
def ptrNil : (t : Ty) → t.den → Option Bool
  | .pad _ _, _ => some false
  | .rad _ _, _ => some false
  | .nilp, _ => some true
  | .ptr _, v => some (Option.isNone v)
  | _, _ => none
def opBin (op : BinOp) (t : Nat) (x y : Operand) (s : St) : Option (Eff R) := match ev s x, ev s y with
  | some ⟨.int k, a⟩, some ⟨.int k', b⟩ => if isSh op then shI op k a b s else if k = k' then binI op k a b s else none
  | some ⟨.str, a⟩, some ⟨.str, b⟩ => binS op a b s
  | some ⟨.bool, a⟩, some ⟨.bool, b⟩ => match tb.get t with
   | some ti => match ti.kd, op with
    | .bool, .eql => some (Eff.one s .bool (.ret (a == b)))
    | .bool, .neq => some (Eff.one s .bool (.ret (!(a == b))))
    | _, _ => none
   | none => none
  | some ⟨.st T, a⟩, some ⟨.st T', b⟩ => if h : T' = T then (if T.pure && eqOk tb 8 t (.st T) then match op with
    | .eql => some (Eff.one s .bool (.ret (eqT (.st T) a (h ▸ b))))
    | .neq => some (Eff.one s .bool (.ret (!(eqT (.st T) a (h ▸ b)))))
    | _ => none
    else none) else none
  | some ⟨.sln T, a⟩, some ⟨.nils, _⟩ => match tb.get t with
   | some ti => match ti.kd, op with
    | .slice _, .eql => some (Eff.one s .bool (.ret a.2))
    | .slice _, .neq => some (Eff.one s .bool (.ret (!a.2)))
    | _, _ => none
   | none => none
  | some ⟨T, a⟩, some ⟨.nilp, _⟩ => match tb.get t with
   | some ti => match ti.kd, ptrNil T a, op with
    | .ptr _, some b, .eql => some (Eff.one s .bool (.ret b))
    | .ptr _, some b, .neq => some (Eff.one s .bool (.ret (!b)))
    | _, _, _ => none
   | none => none
  | _, _ => none
def negI (k : IntKind) (n : Int) : Int := k.wrap (0 - n)
def opUn (op : UnOp) (x : Operand) (s : St) : Option (Eff R) := match op, ev s x with
  | .not, some ⟨.bool, b⟩ => some (Eff.one s .bool (.ret (!b)))
  | .neg, some ⟨.int k, n⟩ => some (Eff.one s (.int k) (.ret (negI k n)))
  | .xor, some ⟨.int k, n⟩ => some (Eff.one s (.int k) (.ret (k.wrap ((BitVec.ofInt k.bits (if k.signed then -1 else k.max) ^^^ BitVec.ofInt k.bits n).toNat : Int))))
  | _, _ => none
def opExtract (x : Operand) (i : Nat) (s : St) : Option (Eff R) := match ev s x with
  | some ⟨.tup t, v⟩ => go t v i
  | _ => none
 where go : (t : Ty) → t.den → Nat → Option (Eff R)
  | .pair a b, v, 0 => some (Eff.one s a (.ret v.1))
  | .pair a b, v, i + 1 => go b v.2 i
  | .nxt _ _, v, 0 => some (Eff.one s .bool (.ret v.isSome))
  | .nxt a _, v, 1 => some (Eff.one s a (.look (v.map (·.1))))
  | .nxt _ b, v, 2 => some (Eff.one s b (.look (v.map (·.2))))
  | _, _, _ => none
def fieldTVs (zero : TV) : List (Nat × Nat) → Nat → Nat → List (Nat × Operand) → St → Option TV
  | [], _, _, [], s => some ⟨.unit, ()⟩
  | [], _, _, _ :: _, _ => none
  | (off, ft) :: fs, k, at', parts, s =>
   match tb.get ft with
   | none => none
   | some fi =>
    if off == at' then
     match (match parts with
      | [] => none
      | (j, x) :: r => if j == k then some (x, r) else none) with
     | some (x, r) => match ev s x with
      | some y => if y.t.size == fi.sz && y.t.cell then match fieldTVs zero fs (k + 1) (at' + fi.sz) r s with
        | some q => match fs with
         | [] => some y
         | _ => some ⟨.pair y.t q.t, (y.v, q.v)⟩
        | none => none
        else none
      | none => none
     | none => match comp zero.t off fi.sz fi.agg with
      | some l => if l.t.pure then match fieldTVs zero fs (k + 1) (at' + fi.sz) parts s with
       | some q => match fs with
        | [] => some ⟨l.t, l.g zero.v⟩
        | _ => some ⟨.pair l.t q.t, (l.g zero.v, q.v)⟩
       | none => none
       else none
      | none => none
    else none
def opBuild (t : Nat) (parts : Array (Nat × Operand)) (s : St) : Option (Eff R) := match tb.get t with
  | some i => match i.kd with
   | .struct fs => match fieldTVs tb ⟨nilT i.ty, nilV i.ty i.zero⟩ fs 0 0 parts.toList s with
    | some q => if q.t.size == i.sz && i.ty.size == i.sz && !(isAny i.ty) then some (Eff.one s (.st q.t) (.ret q.v)) else none
    | none => none
   | _ => none
  | none => none
def rowTVs (t : Ty) : Nat → List (Nat × Operand) → St → Option (List t.den × St)
  | _, [], s => some ([], s)
  | k, (j, x) :: r, s => if j == k then match ev s x with
   | some x => match toHold s x with
    | some (y, s') => match coe y.t y.v t with
     | some v => match rowTVs t (k + 1) r s' with
      | some (l, s'') => some (v :: l, s'')
      | none => none
     | none => none
    | none => none
   | none => none
   else none
def rowTy (t : Ty) (s : St) : List (Nat × Operand) → Ty
  | (_, x) :: _ => match ev s x with
   | some x => match toHold s x with
    | some (y, _) => match y.t.pls with
     | [] => t
     | _ :: _ => y.t
    | none => t
   | none => t
  | [] => t
def opBuildSliceT (T : Ty) (e : TI) (len : Nat) (parts : Array (Nat × Operand)) (id : Nat) (s : St) : Option (Eff R) :=
  if T.hold && (T.size == e.sz) && (parts.size == len) && decide (len * e.sz ≤ 16777216) && decide (0 < e.sz) then match rowTVs T 0 parts.toList s with
   | some (l, s') => some (Eff.new s' (.ow id) T (.ret ((), l)))
   | none => none
   else none
def opBuildSlice (t len : Nat) (parts : Array (Nat × Operand)) (id : Nat) (s : St) : Option (Eff R) := match elemOf' tb t with
  | some e => if e.ty.pure then opBuildSliceT (rowTy e.ty s parts.toList) e len parts id s else none
  | none => none
def lenTV (s : St) (x : TV) : Option Int := match x with
  | ⟨.str, l⟩ => some (l.length : Int)
  | ⟨.slice _, l⟩ => some (l.length : Int)
  | ⟨.nils, _⟩ => some 0
  | ⟨.osl _, v⟩ => some (v.2 : Int)
  | ⟨.psl _, v⟩ => some (hlen v : Int)
  | ⟨.ow r, _⟩ => match s.obj r with
   | some ob => some (ob.xs.length : Int)
   | none => none
  | _ => none
def opLen (t : Nat) (x : Operand) (s : St) : Option (Eff R) := match tb.get t, ev s x with
  | some i, some x => match i.kd, isStr x.t with
   | .str, true => match lenTV s x with
    | some n => some (Eff.one s (.int .i64) (.ret n))
    | none => none
   | .slice _, false => match lenTV s x with
    | some n => some (Eff.one s (.int .i64) (.ret n))
    | none => none
   | _, _ => none
  | _, _ => none
 where isStr : Ty → Bool
  | .str => true
  | _ => false
def opCapNil (t : Nat) (x : Operand) (s : St) : Option (Eff R) := match tb.get t, ev s x with
  | some i, some ⟨.nils, _⟩ => match i.kd with
   | .slice _ => some (Eff.one s (.int .i64) (.ret 0))
   | _ => none
  | _, _ => none
def maxAll (k : IntKind) (m : Int) : List TV → Option Int
  | [] => some m
  | ⟨.int k', n⟩ :: r => if k = k' then maxAll k (if n > m then n else m) r else none
  | _ => none
def minAll (k : IntKind) (m : Int) : List TV → Option Int
  | [] => some m
  | ⟨.int k', n⟩ :: r => if k = k' then minAll k (if n < m then n else m) r else none
  | _ => none
def evs (s : St) : List Operand → Option (List TV)
  | [] => some []
  | x :: r => match ev s x, evs s r with
   | some x, some l => some (x :: l)
   | _, _ => none
def opMax (args : Array Operand) (s : St) : Option (Eff R) := match evs s args.toList with
  | some (⟨.int k, n⟩ :: r) => match maxAll k n r with
   | some m => some (Eff.one s (.int k) (.ret m))
   | none => none
  | _ => none
def opMin (args : Array Operand) (s : St) : Option (Eff R) := match evs s args.toList with
  | some (⟨.int k, n⟩ :: r) => match minAll k n r with
   | some m => some (Eff.one s (.int k) (.ret m))
   | none => none
  | _ => none
def listTV (s : St) (x : TV) : Option OB := match x with
  | ⟨.slice t, l⟩ => some ⟨t, l⟩
  | ⟨.sln t, l⟩ => some ⟨t, l.1⟩
  | ⟨.ow r, _⟩ => s.obj r
  | ⟨.osl r, v⟩ => match s.obj r with
   | some ob => some ⟨ob.t, (ob.xs.drop v.1).take v.2⟩
   | none => none
  | _ => none
def isNils : Ty → Bool
  | .nils => true
  | _ => false
def bytesOf : OB → Option (List Int)
  | ⟨.int .u8, xs⟩ => some xs
  | _ => none
def bytesTV (s : St) (x : TV) : Option (List Int) := if isNils x.t then some [] else match listTV s x with
  | some ob => bytesOf ob
  | none => none
def isU8 : KD → Bool
  | .int .u8 => true
  | _ => false
def u8s (l : List UInt8) : List Int := l.map fun c => (c.toNat : Int)
def s8u (l : List Int) : List UInt8 := l.map fun n => UInt8.ofNat n.toNat
def opConv (src dst : Nat) (x : Operand) (id : Nat) (s : St) : Option (Eff R) := match tb.get src, tb.get dst, ev s x with
  | some a, some b, some ⟨.int _, n⟩ => match a.kd, b.kd with
   | .int _, .int k => some (Eff.one s (.int k) (.ret (k.wrap n)))
   | _, _ => none
  | some a, some b, some ⟨.str, l⟩ => match a.kd, b.kd with
   | .str, .str => some (Eff.one s .str (.ret l))
   | .str, .slice e => match tb.get e with
    | some te => if isU8 te.kd then some (Eff.one s (.slice (.int .u8)) (.ret (u8s l))) else none
    | none => none
   | _, _ => none
  | some a, some b, some x => match a.kd, b.kd with
   | .slice e, .str => match tb.get e, bytesTV s x with
    | some te, some l => if isU8 te.kd then some (Eff.one s .str (.ret (s8u l))) else none
    | _, _ => none
   | _, _ => none
  | _, _, _ => none
def ownTV (s : St) (x : TV) : Option (OB × St) := match x with
  | ⟨.ow r, _⟩ => match s.obj r with
   | some ob => some (ob, s.setObj r .dead)
   | none => none
  | ⟨.osl r, v⟩ => match s.obj r with
   | some ob => some (⟨ob.t, (ob.xs.drop v.1).take v.2⟩, s.setObj r .dead)
   | none => none
  | _ => none
def roomOk (n b : Nat) : Bool := decide (n * b ≤ 140737488355328)
structure OBc where
  t : Ty
  k : Option (List t.den)
def listTVc (s : St) (x : TV) : Option OBc := match x with
  | ⟨.psl p, v⟩ => match pol s.pls p with
   | some q => some ⟨q.t, hget q.l v⟩
   | none => none
  | x => match listTV s x with
   | some ob => some ⟨ob.t, some ob.xs⟩
   | none => none
def ownTVc (s : St) (x : TV) : Option (OBc × St) := match x with
  | ⟨.psl p, v⟩ => match pol s.pls p with
   | some q => some (⟨q.t, hget q.l v⟩, s.setPl p ⟨q.t, hset q.l v none⟩)
   | none => none
  | x => match ownTV s x with
   | some (ob, s') => some (⟨ob.t, some ob.xs⟩, s')
   | none => none
def opAppend (argTypes : Array TypeId) (args : Array Operand) (id : Nat) (s : St) : Option (Eff R) :=
  match argTypes.toList, evs s args.toList with
  | [t, t'], some [x, y] => match elemOf' tb t, elemOf' tb t' with
   | some e, some e' => if decide (0 < e.bys) && e.ty.pure && (e.ty.size == e.sz) then
    if isNils x.t then
     if isNils y.t then some (Eff.one s .nils (.ret ()))
     else match listTVc s y with
     | some oy => if oy.t.hold && (oy.t.size == e.sz) then
       some (Eff.new s (.ow id) oy.t ((Cnd.look oy.k).bind fun ys => (Cnd.test (roomOk ys.length e.bys)).map fun _ => ((), ys)))
      else none
     | none => none
    else match ownTVc s x with
    | some (ox, s') => if (ox.t.size == e.sz) && ox.t.hold then
     if isNils y.t then some (Eff.new s' (.ow id) ox.t ((Cnd.look ox.k).map fun xs => ((), xs)))
     else match listTVc s y with
     | some oy => if h : oy.t = ox.t then
       some (Eff.new s' (.ow id) ox.t ((Cnd.look ox.k).bind fun xs => (Cnd.look oy.k).bind fun ys => (Cnd.test (roomOk (xs.length + ys.length) e.bys)).map fun _ => ((), xs ++ (h ▸ ys))))
      else if oy.t.hold && (oy.t.size == e.sz) then
       some (Eff.new s' (.ow id) oy.t ((Cnd.look ox.k).bind fun xs => (Cnd.look oy.k).bind fun ys => (Cnd.test (xs.isEmpty && roomOk ys.length e.bys)).map fun _ => ((), ys)))
      else none
     | none => none
     else none
    | none => none
    else none
   | _, _ => none
  | _, _ => none
def isIntT : List TypeId → Bool
  | [_, t'] => match tb.get t' with
   | some i => match i.kd with
    | .int _ => true
    | _ => false
   | none => false
  | _ => false
def opAppZ (argTypes : Array TypeId) (args : Array Operand) (id : Nat) (s : St) : Option (Eff R) :=
  match argTypes.toList, evs s args.toList with
  | [t, t'], some [⟨.nils, _⟩, ⟨.int .i64, n⟩] => match elemOf' tb t with
   | some e => if decide (0 < e.bys) && e.ty.pure && (e.ty.size == e.sz) && decide (0 < e.sz) then
     some (Eff.new s (.ow id) e.ty ((Cnd.test (decide (0 ≤ n) && roomOk (Int.toNat n) e.bys)).map fun _ => ((), List.replicate (Int.toNat n) e.zero)))
    else none
   | none => none
  | _, _ => none
def opApp (argTypes : Array TypeId) (args : Array Operand) (id : Nat) (s : St) : Option (Eff R) :=
  if isIntT tb argTypes.toList then opAppZ tb argTypes args id s else opAppend tb argTypes args id s
def clrL {α : Type} (xs : List α) (k n : Nat) (z : α) : List α := xs.take k ++ List.replicate n z ++ xs.drop (k + n)
def opClear (t : Nat) (x : Operand) (s : St) : Option (Eff R) := match elemOf' tb t, ev s x with
  | some e, some ⟨.osl r, v⟩ => match s.obj r with
   | some ob => if decide (e.sz = 1) && (!(isSt e.ty) && e.ty.pure) then
     if h : e.ty = ob.t then some (Eff.upd (s.setObj r .dead) r ob.t (.ret (clrL ob.xs v.1 v.2 (h ▸ e.zero)))) else none
    else none
   | none => none
  | _, _ => none
inductive PM where
  | ro (t : Ty) | mu (t : Ty) | own (t : Ty) | ownp (ps : List (Nat × Ty)) (t : Ty)
inductive RM where
  | val (t : Ty) | own (t : Ty) | ownp (ps : List (Nat × Ty)) (t : Ty)
abbrev PM.den : PM → Type
  | .ro t => t.den
  | .mu t => t.den
  | .own t => t.den
  | .ownp ps t => PlDen ps × t.den
abbrev RM.den : RM → Type
  | .val t => t.den
  | .own t => t.den
  | .ownp ps t => PlDen ps × t.den
abbrev PDen : List PM → Type
  | [] => Unit
  | p :: r => p.den × PDen r
abbrev RDen : List RM → Type
  | [] => Unit
  | p :: r => p.den × RDen r
def mutTy : List PM → Option NK
  | [] => none
  | .mu t :: _ => some (.cl t)
  | .ro _ :: r => mutTy r
  | .own _ :: r => mutTy r
  | .ownp _ _ :: r => mutTy r
def nMut : List PM → Nat
  | [] => 0
  | .mu _ :: r => nMut r + 1
  | .ro _ :: r => nMut r
  | .own _ :: r => nMut r
  | .ownp _ _ :: r => nMut r
def ownTy : List RM → Option NK
  | [] => none
  | .own t :: _ => some (.cl t)
  | .ownp ps t :: _ => some (.clp ps t)
  | .val _ :: r => ownTy r
def nOwn : List RM → Nat
  | [] => 0
  | .own _ :: r => nOwn r + 1
  | .ownp _ _ :: r => nOwn r + 1
  | .val _ :: r => nOwn r
def rPls : List RM → List (Nat × Ty)
  | [] => []
  | .ownp ps _ :: _ => ps
  | .own _ :: _ => []
  | .val _ :: r => rPls r
def RM.ty (id : Nat) : RM → Ty
  | .val t => t
  | .own t => opnT t id
  | .ownp _ t => opnT t id
def RM.v (bs : Nat → Nat) (id : Nat) : (m : RM) → m.den → (m.ty id).den
  | .val _, v => v
  | .own t, v => opnV t v id
  | .ownp _ t, v => opnV t (shV bs t v.2) id
def resChain (id : Nat) : List RM → Ty
  | [] => .unit
  | m :: r => .pair (m.ty id) (resChain id r)
def resChainV (bs : Nat → Nat) (id : Nat) : (l : List RM) → RDen l → (resChain id l).den
  | [], _ => ()
  | m :: r, v => (m.v bs id v.1, resChainV bs id r v.2)
def resT (id : Nat) : List RM → Ty
  | [] => .any
  | [m] => m.ty id
  | m :: n :: r => .tup (resChain id (m :: n :: r))
def resV (bs : Nat → Nat) (id : Nat) : (l : List RM) → RDen l → (resT id l).den
  | [], _ => ()
  | [m], v => m.v bs id v.1
  | m :: n :: r, v => resChainV bs id (m :: n :: r) v
def ownV : (l : List RM) → RDen l → ODen (ownTy l)
  | [], _ => ()
  | .own _ :: _, v => v.1
  | .ownp _ _ :: _, v => v.1
  | .val _ :: r, v => ownV r v.2
def Ty.flatT : Ty → Bool
  | .vec t => t.flat
  | .mpc _ t => t.flat
  | .mit _ t => t.flat
  | .bx t => t.flatT
  | .st t => t.flatT
  | .pair a b => a.flatT && b.flatT
  | t => t.flat
def RM.flat : RM → Bool
  | .val t => t.flat
  | .own t => t.flatT
  | .ownp ps t => t.flatT && ps.all fun p => p.2.flat
def RM.tree : RM → Bool
  | .val t => t.hold
  | .own t => t.tree
  | .ownp ps t => t.tree && ps.all fun p => p.2.hold
structure Ctr where
  ps : List PM
  rs : List RM
  g : PDen ps → Option (ODen (mutTy ps) × RDen rs)
def PM.mutFlat : PM → Bool
  | .mu t => t.flatT
  | _ => true
inductive RQ where
  | reg (q : Nat) | pool (p : Nat)
  deriving DecidableEq
inductive MO where
  | no | reg (q : Nat) (cut : Bool) | po (p : Nat) (h : Option (Nat × Nat × Nat)) | pool (ps : List Nat)
structure RdE (t u : Ty) where
  f : u.den → t.den
  ok : u.den → Bool
  ps : List RQ
def rdE (pl : List (Nat × PL)) : (t u : Ty) → Option (RdE t u)
  | .st t, .st u => match rdE pl t u with
   | some r => some ⟨r.f, r.ok, r.ps⟩
   | none => none
  | .pair a b, .pair c d => match rdE pl a c, rdE pl b d with
   | some r, some q => some ⟨fun v => (r.f v.1, q.f v.2), fun v => r.ok v.1 && q.ok v.2, r.ps ++ q.ps⟩
   | _, _ => none
  | .slice t, .psl p => match pol pl p with
   | some q => if h : q.t = t then some ⟨fun v => h ▸ hgetD q.l v, fun v => hok q.l v, [.pool p]⟩ else match rdE pl t q.t with
    | some r => some ⟨fun v => (hgetD q.l v).map r.f, fun v => hok q.l v && (hgetD q.l v).all r.ok, .pool p :: r.ps⟩
    | none => none
   | none => none
  | .slice t, .slice u => if h : u = t then (if t.hold then some ⟨fun v => h ▸ v, fun _ => true, []⟩ else none) else match rdE pl t u with
   | some r => some ⟨List.map r.f, fun v => List.all v r.ok, r.ps⟩
   | none => none
  | t, u => if h : u = t then (if t.hold then some ⟨fun v => h ▸ v, fun _ => true, []⟩ else none) else none
def rdV (s : St) : (T : Ty) → TV → Option (T.den × List RQ × Bool)
  | .st t, x => match x with
   | ⟨.st a, v⟩ => rdV s t ⟨a, v⟩
   | _ => none
  | .pair a b, x => match x with
   | ⟨.pair p q, v⟩ => match rdV s a ⟨p, v.1⟩, rdV s b ⟨q, v.2⟩ with
    | some (y, l, k), some (z, m, j) => some ((y, z), l ++ m, k && j)
    | _, _ => none
   | _ => none
  | .slice t, x => match coe x.t x.v (.slice t) with
   | some v => some (v, [], true)
   | none => match x with
    | ⟨.ow q, _⟩ => match s.obj q with
     | some ob => if h : ob.t = t then some (h ▸ ob.xs, [.reg q], true) else match rdE s.pls t ob.t with
      | some r => some (ob.xs.map r.f, .reg q :: r.ps, ob.xs.all r.ok)
      | none => none
     | none => none
    | ⟨.osl q, v⟩ => match s.obj q with
     | some ob => if h : ob.t = t then some (h ▸ (ob.xs.drop v.1).take v.2, [.reg q], true) else match rdE s.pls t ob.t with
      | some r => some (((ob.xs.drop v.1).take v.2).map r.f, .reg q :: r.ps, ((ob.xs.drop v.1).take v.2).all r.ok)
      | none => none
     | none => none
    | ⟨.psl p, v⟩ => match rdE s.pls (.slice t) (.psl p) with
     | some r => some (r.f v, r.ps, r.ok v)
     | none => none
    | ⟨.slice u, v⟩ => match rdE s.pls (.slice t) (.slice u) with
     | some r => some (r.f v, r.ps, r.ok v)
     | none => none
    | _ => none
  | .rad t o, x => match coe x.t x.v (.rad t o) with
   | some v => some (v, [], true)
   | none => match x with
    | ⟨.pad q o', _⟩ => match s.bx q with
     | some y => if o == o' then (rdV s t y).map fun v => (v.1, v.2.1 ++ [.reg q], v.2.2) else none
     | none => none
    | _ => none
  | .ptr t, x => match coe x.t x.v (.ptr t) with
   | some v => some (v, [], true)
   | none => match x with
    | ⟨.pad q 0, _⟩ => match s.bx q with
     | some y => (rdV s t y).map fun v => (some v.1, v.2.1 ++ [.reg q], v.2.2)
     | none => none
    | _ => none
  | .clo f t, x => match coe x.t x.v (.clo f t) with
   | some v => some (v, [], true)
   | none => match x with
    | ⟨.clo g a, v⟩ => if g = f then rdV s t ⟨a, v⟩ else none
    | _ => none
  | .fmp k t, x => match coe x.t x.v (.fmp k t) with
   | some v => some (v, [], true)
   | none => match x with
    | ⟨.mpv q, _⟩ => match s.cont q with
     | some (.mp k' u l) => if k' = k then match rdE s.pls t u with
      | some r => if isSt t == isSt u then some (l.map (fun p => (p.1, r.f p.2)), .reg q :: r.ps, l.all fun p => r.ok p.2) else none
      | none => none
      else none
     | _ => none
    | _ => none
  | .lost, x => if x.t.size == 1 && x.t.cell && !isSt x.t then some ((), [], true) else none
  | T, x => (coe x.t x.v T).map fun v => (v, [], true)
def cls (s : St) : (T : Ty) → TV → Option (T.den × List MO × List RQ × Bool)
  | .vec t, x => match x with
   | ⟨.ow q, _⟩ => match s.obj q with
    | some ob => if h : ob.t = t then (if t.hold then some (h ▸ ob.xs, [.reg q false], [], true) else none) else none
    | none => none
   | ⟨.osl q, v⟩ => match s.obj q with
    | some ob => if h : ob.t = t then (if t.hold then some (h ▸ (ob.xs.drop v.1).take v.2, [.reg q true], [], true) else none) else none
    | none => none
   | ⟨.psl p, v⟩ => match pol s.pls p with
    | some q => if h : q.t = t then (if t.hold then some (h ▸ hgetD q.l v, [.po p v], [], hok q.l v) else none) else none
    | none => none
   | ⟨.nils, _⟩ => if t.hold then some ([], [.no], [], true) else none
   | _ => none
  | .mpc k t, x => match x with
   | ⟨.mpv q, _⟩ => match s.cont q with
    | some (.mp k' t' l) => if h : t' = t then (if k' = k then (if t.hold then some (h ▸ l, [.reg q false], [], true) else none) else none) else none
    | _ => none
   | _ => none
  | .mit k t, x => match x with
   | ⟨.pad q 0, _⟩ => match s.cont q with
    | some (.mit k' t' l c) => if h : t' = t then (if k' = k then (if t.hold then some ((h ▸ l, h ▸ c), [.reg q false], [], true) else none) else none) else none
    | _ => none
   | _ => none
  | .iter, x => match x with
   | ⟨.pad q 0, _⟩ => match s.itc q with
    | some v => some (v, [.reg q false], [], true)
    | none => none
   | _ => none
  | .bx t, x => match x with
   | ⟨.pad q 0, _⟩ => match s.bx q with
    | some y => match cls s t y with
     | some (v, l, fr, k) => some (v, .reg q false :: l, fr, k)
     | none => none
    | none => none
   | _ => none
  | .st t, x => match x with
   | ⟨.st a, v⟩ => cls s t ⟨a, v⟩
   | _ => none
  | .pair a b, x => match x with
   | ⟨.pair p q, v⟩ => match cls s a ⟨p, v.1⟩, cls s b ⟨q, v.2⟩ with
    | some (y, l, f, k), some (z, m, g, j) => some ((y, z), l ++ m, f ++ g, k && j)
    | _, _ => none
   | _ => none
  | T, x => match rdV s T x with
   | some (v, fr, k) => if T.hold then some (v, [], fr, k) else none
   | none => none
def packP (s : St) : (ps : List (Nat × Ty)) → Option (PlDen ps)
  | [] => some ()
  | (p, t) :: r => match pol s.pls p with
   | some q => if h : q.t = t then (match packP s r with
    | some v => some (h ▸ q.l, v)
    | none => none) else none
   | none => none
def wholeB (s : St) (x : TV) : Bool := match x with
  | ⟨.psl p, v⟩ => match pol s.pls p with
   | some q => hall q.l v
   | none => false
  | _ => true
def argsD (s : St) : (ps : List PM) → List TV → Option (PDen ps × List RQ × List MO × Bool)
  | [], [] => some ((), [], [], true)
  | .ro t :: ps, x :: xs => match argsD s ps xs with
   | none => none
   | some (r, al, mo, k) => if t.hold && (isSt x.t == isSt t) then match rdV s t x with
    | some (v, l, j) => some ((v, r), l ++ al, mo, j && k)
    | none => none
    else none
  | .mu t :: ps, x :: xs => match argsD s ps xs with
   | none => none
   | some (r, al, mo, k) => if isSt x.t then none else match cls s t x with
    | some (v, l, f, j) => some ((v, r), f ++ al, l ++ mo, (j && wholeB s x) && k)
    | none => none
  | .own t :: ps, x :: xs => match argsD s ps xs with
   | none => none
   | some (r, al, mo, k) => if isSt x.t == isSt t then match cls s t x with
    | some (v, l, f, j) => some ((v, r), f ++ al, l ++ mo, j && k)
    | none => none
    else none
  | .ownp qs t :: ps, x :: xs => match argsD s ps xs, packP s qs with
   | some (r, al, mo, k), some pv => if isSt x.t == isSt t then match cls s t x with
    | some (v, l, f, j) => some (((pv, v), r), f ++ al, l ++ MO.pool (qs.map (·.1)) :: mo, j && k)
    | none => none
    else none
   | _, _ => none
  | _, _ => none
structure MUp (k : Option NK) where
  ut : Option NK
  ur : Nat
  f : ODen k → ODen ut
def mutUp (s : St) : (ps : List PM) → List TV → Option (MUp (mutTy ps))
  | .mu (.vec t) :: _, x :: _ => match x with
   | ⟨.ow q, _⟩ => some ⟨some (.cl (.vec t)), q, fun v => v⟩
   | ⟨.psl p, v⟩ => match pol s.pls p with
    | some q => if h : t = q.t then some ⟨some (.pl q.t), p, fun xs => hset q.l v (some (h ▸ xs))⟩ else none
    | none => none
   | _ => none
  | .mu (.bx t) :: _, x :: _ => match x with
   | ⟨.pad q 0, _⟩ => some ⟨some (.cl (.bx t)), q, fun v => v⟩
   | _ => none
  | .ro _ :: ps, _ :: xs => match mutUp s ps xs with
   | some m => some ⟨m.ut, m.ur, m.f⟩
   | none => none
  | .own _ :: ps, _ :: xs => match mutUp s ps xs with
   | some m => some ⟨m.ut, m.ur, m.f⟩
   | none => none
  | .ownp _ _ :: ps, _ :: xs => match mutUp s ps xs with
   | some m => some ⟨m.ut, m.ur, m.f⟩
   | none => none
  | _, _ => none
def deadPl (s : St) : List Nat → St
  | [] => s
  | p :: r => match pol s.pls p with
   | some q => deadPl (s.setPl p ⟨q.t, q.l.map fun _ => none⟩) r
   | none => deadPl s r
def kill1 (s : St) : MO → St
  | .no => s
  | .reg r _ => s.setObj r .dead
  | .po p h => match pol s.pls p with
   | some q => s.setPl p ⟨q.t, hset q.l h none⟩
   | none => s
  | .pool p => deadPl s p
def kills (s : St) : List MO → St
  | [] => s
  | m :: l => kills (kill1 s m) l
def frzs (s : St) : List RQ → Option St
  | [] => some s
  | .pool _ :: _ => none
  | .reg r :: l => match s.cont r with
   | some (.arr ob) => if ob.t.pure then frzs (s.frz r (.frz (.arr ob))) l else none
   | some (.box y) => if y.t.pure then frzs (s.frz r (.frz (.box y))) l else none
   | some (.it _ _) => none
   | some (.mp _ _ _) => none
   | some (.mit _ _ _ _) => none
   | none => frzs s l
def MO.rg : MO → Option Nat
  | .reg q _ => some q
  | _ => none
def MO.pl : MO → List Nat
  | .po p _ => [p]
  | .pool ps => ps
  | _ => []
def moRegs (mo : List MO) : List Nat := mo.filterMap MO.rg
def moPls (mo : List MO) : List Nat := mo.flatMap MO.pl
def RQ.off (mo : List MO) : RQ → Bool
  | .reg q => !((moRegs mo).contains q)
  | .pool p => !((moPls mo).contains p)
def nkCnt : Option NK → Nat
  | none => 0
  | some (.cl t) => cnt t
  | some (.raw _) => 1
  | some (.pl _) => 0
  | some (.clp _ t) => cnt t
def pty (s : St) (p : Nat) : Option Ty := match pol s.pls p with
  | some q => some q.t
  | none => none
def plsOk (s : St) (ps : List (Nat × Ty)) : Bool := noDup (ps.map (·.1)) && ps.all fun p => decide (pty s p.1 = some p.2)
def opCall (Γ : Nat → List Ctr) (f : Nat) (xs : List TV) (id : Nat) (s : St) : Option (Eff R) := go (Γ f)
 where go : List Ctr → Option (Eff R)
  | [] => none
  | c :: cs => match argsD s c.ps xs with
   | none => go cs
   | some (v, al, mo, ok) =>
    if noDup (moRegs mo) && noDup (moPls mo) && (al.all (RQ.off mo)) && decide (nOwn c.rs ≤ 1) && decide (nMut c.ps ≤ 1) && decide (nkCnt (ownTy c.rs) ≤ 16) && c.rs.all RM.tree && plsOk s (rPls c.rs) && ((rPls c.rs).isEmpty || (mutTy c.ps).isNone) then
     match (if (mutTy c.ps).isSome then mutUp s c.ps xs else some ⟨none, 0, fun _ => ()⟩), (if c.rs.all RM.flat && c.ps.all PM.mutFlat then some (kills s mo) else frzs (kills s mo) al) with
     | some up, some base => some ⟨resT id c.rs, ownTy c.rs, up.ut, up.ur, base, mo.isEmpty && ((rPls c.rs).isEmpty && (al.isEmpty || (c.rs.all RM.flat && c.ps.all PM.mutFlat))),
       (Cnd.test ok).bind fun _ => (Cnd.look (c.g v)).map fun r => (resV (bsOf base (rPls c.rs)) id c.rs r.2, ownV c.rs r.2, up.f r.1)⟩
     | _, _ => none
    else none
def unchain : (t : Ty) → t.den → Option (List TV)
  | .pair a b, v => if a.cell && !(isSt a) && a.size == 1 then match unchain b v.2 with
   | some l => some (⟨a, v.1⟩ :: l)
   | none => none
   else none
  | .unit, _ => some []
  | _, _ => none
def itNext (l : List UInt8) (p : Nat) : Option (Int × Int) × Nat :=
  if p < l.length then (some ((p : Int), (Utf8.decode ⟨l.toArray⟩ p).1), p + (Utf8.decode ⟨l.toArray⟩ p).2) else (none, p)
def opRange (t : Nat) (x : Operand) (id : Nat) (s : St) : Option (Eff R) := match ev s x, tb.get t with
  | some ⟨.str, l⟩, some i => match i.kd with
   | .str => some ⟨.pad id 0, some (.cl .iter), none, 0, s, true, .ret ((), (l, 0), ())⟩
   | _ => none
  | some ⟨.mpv r, _⟩, some i => match i.kd with
   | .map _ _ => match s.cont r with
    | some (.mp k v l) => some ⟨.pad id 0, some (.cl (.mit k v)), none, 0, s.setObj r .dead, false, .ret ((), (l, none), ())⟩
    | _ => none
   | _ => none
  | _, _ => none
def mget {α : Type} : List (Int × α) → Int → Option α
  | [], _ => none
  | p :: r, n => bif decide (p.1 = n) then some p.2 else mget r n
def mset {α : Type} : List (Int × α) → Int → α → List (Int × α)
  | [], n, x => [(n, x)]
  | p :: r, n, x => bif decide (p.1 = n) then (p.1, x) :: r else p :: mset r n x
def mapTy (s : St) (t : Ty) : Ty := match t with
  | .slice u => match fpl u s.pls with
   | some p => .psl p
   | none => .slice u
  | t => t
def mapOf (tb : Tab) (t : Nat) : Option (IntKind × TI) := match tb.get t with
  | some i => match i.kd with
   | .map k e => match tb.get e with
    | some ei => some (k, ei)
    | none => none
   | _ => none
  | none => none
def opMakeMap (t : Nat) (id : Nat) (s : St) : Option (Eff R) := match mapOf tb t with
  | some (k, ei) => if (mapTy s ei.ty).hold then some ⟨.mpv id, some (.cl (.mpc k (mapTy s ei.ty))), none, 0, s, true, .ret ((), [], ())⟩ else none
  | none => none
def lookT (v : Ty) (ok : Bool) : Ty := bif ok then .tup (.pair v (.pair .bool .unit)) else v
def lookV {v : Ty} (z : v.den) (o : Option v.den) : (ok : Bool) → (lookT v ok).den
  | false => o.getD z
  | true => (o.getD z, (o.isSome, ()))
def opLookup (t : Nat) (x ix : Operand) (ok : Bool) (s : St) : Option (Eff R) := match mapOf tb t, ev s x, ev s ix with
  | some (k, ei), some ⟨.mpv r, _⟩, some ⟨.int k', n⟩ => match s.cont r with
   | some (.mp k2 v l) => match coe (nilT ei.ty) (nilV ei.ty ei.zero) v with
    | some z => if (k' = k ∧ k2 = k) ∧ isSt v = isSt ei.ty ∧ isAny ei.ty = false then some (Eff.one s (lookT v ok) (.ret (lookV z (mget l n) ok))) else none
    | none => none
   | _ => none
  | some (k, ei), some ⟨.fmp k2 v, l⟩, some ⟨.int k', n⟩ => match coe (nilT ei.ty) (nilV ei.ty ei.zero) v with
    | some z => if (k' = k ∧ k2 = k) ∧ isSt v = isSt ei.ty ∧ isAny ei.ty = false then some (Eff.one s (lookT v ok) (.ret (lookV z (mget l n) ok))) else none
    | none => none
  | _, _, _ => none
def isOw (s : St) : Ty → Bool
  | .ow q => (s.obj q).isSome
  | _ => false
def opMapUpdate (t : Nat) (x ix y : Operand) (s : St) : Option (Eff R) := match mapOf tb t, ev s x, ev s ix, ev s y with
  | some (k, ei), some ⟨.mpv r, _⟩, some ⟨.int k', n⟩, some y => if !(y.t.hold || isOw s y.t) then none else match toHold s y with
   | some (y, s') => match s'.cont r with
    | some (.mp k2 v l) => match coe y.t y.v v with
     | some z => if (k' = k ∧ k2 = k) ∧ isSt v = isSt y.t then some ⟨.any, none, some (.cl (.mpc k v)), r, s'.setObj r .dead, false, .ret ((), (), mset l n z)⟩ else none
     | none => none
    | _ => none
   | none => none
  | _, _, _, _ => none
def opEntry (x : Operand) (s : St) : Option (Eff R) := match ev s x with
  | some ⟨.pad r 0, _⟩ => match s.cont r with
   | some (.mit k v l c) => some (Eff.one s (.tup (.pair (.int k) (.pair v .unit))) ((Cnd.look c).map fun p => (p.1, (p.2, ()))))
   | _ => none
  | _ => none
def opNext (x : Operand) (isS : Bool) (s : St) : Option (Eff R) := match ev s x, isS with
  | some ⟨.pad r 0, _⟩, true => match s.itc r with
   | some v => some ⟨.tup (.nxt (.int .i64) (.int .i32)), none, some (.cl .iter), r, s.setObj r .dead, false, .ret ((itNext v.1 v.2).1, (), (v.1, (itNext v.1 v.2).2))⟩
   | none => none
  | _, _ => none
def opD (Γ : Nat → List Ctr) (o : Oper) (id : Nat) (s : St) : Option (Eff R) := match o.op with
  | .move x | .assign x => opMove x s
  | .pick c a b => opPick c a b s
  | .alloc t => opAlloc tb t id s
  | .box _ x => opBox x id s
  | .build t parts => opBuild tb t parts s
  | .buildSlice t len parts => opBuildSlice tb t len parts id s
  | .load t a => opLoad tb t a s
  | .store t a x => opStore tb t a x s
  | .nilCheck x => opNilCheck x s
  | .binOp op t x y _ => opBin tb op t x y s
  | .unOp op _ x => opUn op x s
  | .convert a b x => opConv tb a b x id s
  | .makeFunc fn first captured => opMakeFunc fn first captured s
  | .makeSlice t l c => opMakeSlice tb t l c id s
  | .slice t x lo hi mx => opSlice tb t x lo hi mx s
  | .fieldAddr t x f => opFieldAddr tb t x f s
  | .field t x f => opField tb t x f s
  | .indexAddr t x i => opIndexAddr tb t x i s
  | .index t x i => opIndex tb t x i s
  | .extract x i => opExtract x i s
  | .range t x => opRange tb t x id s
  | .next x b => opNext x b s
  | .makeMap t none => opMakeMap tb t id s
  | .lookup t x i b => opLookup tb t x i b s
  | .mapUpdate t m k v => opMapUpdate tb t m k v s
  | .entry x => opEntry x s
  | .call c => match c.callee with
   | .builtin .len => match c.argTypes.toList, c.args.toList with
    | [t], [x] => opLen tb t x s
    | _, _ => none
   | .builtin .cap => match c.argTypes.toList, c.args.toList with
    | [t], [x] => opCapNil tb t x s
    | _, _ => none
   | .builtin .max => opMax c.args s
   | .builtin .min => opMin c.args s
   | .builtin .append => opApp tb c.argTypes c.args id s
   | .builtin .clear => match c.argTypes.toList, c.args.toList with
    | [t], [x] => opClear tb t x s
    | _, _ => none
   | .value f => match ev s f, evs s c.args.toList with
    | some ⟨.clo f q, v⟩, some xs => match unchain q v with
     | some ys => opCall Γ f (xs ++ ys) id s
     | none => none
    | _, _ => none
   | _ => none
  | _ => none
end Go.Vu
