/- Values' functions of the program, printed, and that each body computes its own. -/
import Derived.Test.YthjjbjnfckjohaaGreatVtSort4
import Derived.Test.YthjjbjnfckjohaaGreatProg
set_option linter.unusedVariables false
set_option maxRecDepth 100000
namespace Go.Vt.Sg
noncomputable section
open Go Go.Vt Go.Proofs

def i_less (x y : Int) : Option (Unit × (Bool × Unit)) := some ((), (decide (x < y), ()))
def i_less_c : Ctr := ⟨[.ro (.int IntKind.i32), .ro (.int IntKind.i32)], [.val .bool], fun v => i_less v.1 v.2.1⟩
def s_less (x y : List UInt8) : Option (Unit × (Bool × Unit)) := some ((), (Op.bytesLess x y, ()))
def s_less_c : Ctr := ⟨[.ro .str, .ro .str], [.val .bool], fun v => s_less v.1 v.2.1⟩
def cmpv (x y : Int) : Int := if x < y then -1 else if x > y then 1 else 0
def c_cmp (p q : Int × Int) : Option (Unit × (Int × Unit)) := some ((), (cmpv p.1 q.1, ()))
def c_cmp_c : Ctr := ⟨[.ro (.st (.pair (.int IntKind.i32) (.int IntKind.i32))), .ro (.st (.pair (.int IntKind.i32) (.int IntKind.i32)))], [.val (.int IntKind.i64)], fun v => c_cmp v.1 v.2.1⟩
def c_less (p q : Int × Int) : Option (Unit × (Bool × Unit)) := some ((), (decide (cmpv p.1 q.1 < 0), ()))
def i_pdqR_cR (rec : List Int → Int → Int → Int → Option (List Int × Unit)) : Ctr := ⟨[.mu (.vec (.int IntKind.i32)), .ro (.int IntKind.i64), .ro (.int IntKind.i64), .ro (.int IntKind.i64)], [], fun v => rec v.1 v.2.1 v.2.2.1 v.2.2.2.1⟩
def s_pdqR_cR (rec : List (List UInt8) → Int → Int → Int → Option (List (List UInt8) × Unit)) : Ctr := ⟨[.mu (.vec .str), .ro (.int IntKind.i64), .ro (.int IntKind.i64), .ro (.int IntKind.i64)], [], fun v => rec v.1 v.2.1 v.2.2.1 v.2.2.2.1⟩
def c_pdqR_cR (rec : List (Int × Int) → Int → Int → Int → Option (List (Int × Int) × Unit)) : Ctr := ⟨[.mu (.vec (.st (.pair (.int IntKind.i32) (.int IntKind.i32)))), .ro (.int IntKind.i64), .ro (.int IntKind.i64), .ro (.int IntKind.i64), .ro (.clo 52 .unit)], [], fun v => rec v.1 v.2.1 v.2.2.1 v.2.2.2.1⟩
def sortI (l : List Int) : Option (List Int × Unit) := Srt.sortG (Srt.pdqN i_less (l.length + 1)) l
def sortI_c : Ctr := ⟨[.mu (.vec (.int IntKind.i32))], [], fun v => sortI v.1⟩
def sortS (l : List (List UInt8)) : Option (List (List UInt8) × Unit) := Srt.sortG (Srt.pdqN s_less (l.length + 1)) l
def sortS_c : Ctr := ⟨[.mu (.vec .str)], [], fun v => sortS v.1⟩
def sortF (l : List (Int × Int)) : Option (List (Int × Int) × Unit) := Srt.sortG (Srt.pdqN c_less (l.length + 1)) l
def sortF_c : Ctr := ⟨[.mu (.vec (.st (.pair (.int IntKind.i32) (.int IntKind.i32)))), .ro (.clo 52 .unit)], [], fun v => sortF v.1⟩

abbrev yi64 : Ty := .int IntKind.i64
abbrev yi32 : Ty := .int IntKind.i32
abbrev yu8 : Ty := .int IntKind.u8
abbrev yu64 : Ty := .int IntKind.u64
abbrev y0 : Ty := .st (.pair yi32 yi32)
abbrev y1 : Ty := .st (.pair (.vec y0) (.pair (.vec y0) (.vec .str)))
abbrev y2 : Ty := .st (.pair (.slice y0) (.pair (.slice y0) (.slice .str)))
abbrev y3 : Ty := .st (.pair yi32 (.pair yi64 yi64))
def tbl : Tab := [
  (3, ⟨1, 8, false, (.int IntKind.i64), (.int IntKind.i64), ((0 : Int) : Int), false⟩),
  (4, ⟨1, 1, false, .bool, .bool, (false : Bool), false⟩),
  (5, ⟨1, 1, false, (.int IntKind.u8), (.int IntKind.u8), ((0 : Int) : Int), false⟩),
  (9, ⟨1, 16, false, .str, .str, (([] : List UInt8) : List UInt8), false⟩),
  (21, ⟨1, 4, false, (.int IntKind.i32), (.int IntKind.i32), ((0 : Int) : Int), false⟩),
  (22, ⟨1, 24, false, (.slice 38), (.slice (.st (.pair (.int IntKind.i32) (.int IntKind.i32)))), (([] : List (Int × Int)) : List (Int × Int)), false⟩),
  (23, ⟨1, 24, false, (.slice 9), (.slice .str), (([] : List (List UInt8)) : List (List UInt8)), false⟩),
  (25, ⟨3, 72, true, (.struct [(0, 22), (1, 22), (2, 23)]), (.st (.pair (.slice (.st (.pair (.int IntKind.i32) (.int IntKind.i32)))) (.pair (.slice (.st (.pair (.int IntKind.i32) (.int IntKind.i32)))) (.slice .str)))), ((([] : List (Int × Int)), (([] : List (Int × Int)), ([] : List (List UInt8)))) : (List (Int × Int) × (List (Int × Int) × List (List UInt8)))), true⟩),
  (38, ⟨2, 8, true, (.struct [(0, 21), (1, 21)]), (.st (.pair (.int IntKind.i32) (.int IntKind.i32))), (((0 : Int), (0 : Int)) : (Int × Int)), true⟩),
  (44, ⟨1, 24, false, (.slice 21), (.slice (.int IntKind.i32)), (([] : List Int) : List Int), false⟩),
  (46, ⟨1, 24, false, (.slice 5), (.slice (.int IntKind.u8)), (([] : List Int) : List Int), false⟩),
  (52, ⟨1, 8, false, .other, .any, (() : Unit), false⟩),
  (57, ⟨1, 24, false, (.slice 60), (.slice (.st (.pair (.int IntKind.i32) (.pair (.int IntKind.i64) (.int IntKind.i64))))), (([] : List (Int × (Int × Int))) : List (Int × (Int × Int))), false⟩),
  (60, ⟨3, 24, true, (.struct [(0, 21), (1, 3), (2, 3)]), (.st (.pair (.int IntKind.i32) (.pair (.int IntKind.i64) (.int IntKind.i64)))), (((0 : Int), ((0 : Int), (0 : Int))) : (Int × (Int × Int))), true⟩),
  (68, ⟨1, 8, true, (.struct [(0, 52)]), (.st .any), (() : Unit), true⟩),
  (78, ⟨1, 8, false, (.int IntKind.u64), (.int IntKind.u64), ((0 : Int) : Int), false⟩),
  (80, ⟨1, 24, false, (.slice 23), (.slice (.slice .str)), (([] : List (List (List UInt8))) : List (List (List UInt8))), false⟩),
  (85, ⟨1, 8, false, (.ptr 113), (.ptr (.st (.pair (.slice (.int IntKind.u8)) (.pair (.int IntKind.i64) .bool)))), (none : Option (List Int × (Int × Bool))), false⟩),
  (92, ⟨1, 8, false, (.int IntKind.i64), (.int IntKind.i64), ((0 : Int) : Int), false⟩),
  (102, ⟨1, 8, false, (.int IntKind.u64), (.int IntKind.u64), ((0 : Int) : Int), false⟩),
  (109, ⟨1, 24, false, (.slice 22), (.slice (.slice (.st (.pair (.int IntKind.i32) (.int IntKind.i32))))), (([] : List (List (Int × Int))) : List (List (Int × Int))), false⟩),
  (113, ⟨3, 40, true, (.struct [(0, 46), (1, 3), (2, 4)]), (.st (.pair (.slice (.int IntKind.u8)) (.pair (.int IntKind.i64) .bool))), ((([] : List Int), ((0 : Int), false)) : (List Int × (Int × Bool))), true⟩),
  (115, ⟨1, 8, false, (.int IntKind.u64), (.int IntKind.u64), ((0 : Int) : Int), false⟩)]

/- 73: cmp.isNaN[int32] -/
def isNaN (p0 : Int) : Option (Unit × (Bool × Unit)) :=
 some ((), ((p0 != p0), ()))


def isNaN_c : Ctr := ⟨[.ro yi32], [.val .bool], fun v => isNaN v.1⟩
def isNaN_h : Nat → Option LH := fun i => none
def isNaN_g : List (Nat × Ctr) := []
theorem isNaN_eq (v : PDen isNaN_c.ps) : semF tbl (gam isNaN_g) isNaN_h fuelN 6 (bodyOf Tryz.f73) isNaN_c.ps isNaN_c.rs [2] [] v = isNaN_c.g v := by kernel_rfl

/- 122: cmp.Less[int32] -/
def cmpLess (p0 : Int) (p1 : Int) : Option (Unit × (Bool × Unit)) :=
 (Option.bind (isNaN p0) fun r1 =>
 bif r1.2.1 then
 (Option.bind (isNaN p1) fun r2 =>
 bif (!r2.2.1) then
 some ((), (true, ()))
 else
 some ((), ((decide (p0 < p1)), ())))
 else
 some ((), ((decide (p0 < p1)), ())))


def cmpLess_c : Ctr := ⟨[.ro yi32, .ro yi32], [.val .bool], fun v => cmpLess v.1 v.2.1⟩
def cmpLess_h : Nat → Option LH := fun i => none
def cmpLess_g : List (Nat × Ctr) := [(73, isNaN_c)]
theorem cmpLess_eq (v : PDen cmpLess_c.ps) : semF tbl (gam cmpLess_g) cmpLess_h fuelN 17 (bodyOf Tryz.f122) cmpLess_c.ps cmpLess_c.rs [4] [] v = cmpLess_c.g v := by kernel_rfl

/- 53: cmp.Compare[int32] -/
def cmpCompare (p0 : Int) (p1 : Int) : Option (Unit × (Int × Unit)) :=
 (Option.bind (isNaN p0) fun r1 =>
 (Option.bind (isNaN p1) fun r2 =>
 (Option.bind (show Option ((Int × Unit) ⊕ (Int × (Int × (Bool × Unit)))) from
 bif r1.2.1 then
 bif r2.2.1 then
 some (.inl ((0 : Int), ()))
 else
 some (.inl ((-1 : Int), ()))
 else
 some (.inr (p0, (p1, (r2.2.1, ()))))) fun y4 =>
 (match y4 with
 | .inl y4 =>
 some ((), (y4.1, ()))
 | .inr y4 =>
 (Option.bind (show Option ((Int × Unit) ⊕ (Int × (Int × Unit))) from
 bif y4.2.2.1 then
 some (.inl ((1 : Int), ()))
 else
 some (.inr (y4.1, (y4.2.1, ())))) fun y6 =>
 (match y6 with
 | .inl y6 =>
 some ((), (y6.1, ()))
 | .inr y6 =>
 (Option.bind (show Option ((Int × Unit) ⊕ (Int × (Int × Unit))) from
 bif (decide (y6.1 < y6.2.1)) then
 some (.inl ((-1 : Int), ()))
 else
 some (.inr (y6.1, (y6.2.1, ())))) fun y8 =>
 (match y8 with
 | .inl y8 =>
 some ((), (y8.1, ()))
 | .inr y8 =>
 bif (decide (y8.1 > y8.2.1)) then
 some ((), ((1 : Int), ()))
 else
 some ((), ((0 : Int), ()))))))))))


def cmpCompare_c : Ctr := ⟨[.ro yi32, .ro yi32], [.val yi64], fun v => cmpCompare v.1 v.2.1⟩
def cmpCompare_h : Nat → Option LH := fun i => if i = 1090011 then some ⟨⟨[], []⟩, [(.ret, ⟨[(4, yi64)], []⟩), (.normal, ⟨[(0, yi32), (1, yi32)], []⟩)]⟩ else if i = 1070009 then some ⟨⟨[], []⟩, [(.ret, ⟨[(4, yi64)], []⟩), (.normal, ⟨[(0, yi32), (1, yi32)], []⟩)]⟩ else if i = 1030007 then some ⟨⟨[], []⟩, [(.ret, ⟨[(4, yi64)], []⟩), (.normal, ⟨[(0, yi32), (1, yi32), (6, .bool)], []⟩)]⟩ else none
def cmpCompare_g : List (Nat × Ctr) := [(73, isNaN_c)]
theorem cmpCompare_eq (v : PDen cmpCompare_c.ps) : semF tbl (gam cmpCompare_g) cmpCompare_h fuelN 20 (bodyOf Tryz.f53) cmpCompare_c.ps cmpCompare_c.rs [4] [] v = cmpCompare_c.g v := by kernel_rfl

/- 52: trema/rset.Norm$1 -/
def normLess (p0 : (Int × Int)) (p1 : (Int × Int)) : Option (Unit × (Int × Unit)) :=
 (Option.bind (cmpCompare p0.1 p1.1) fun r1 =>
 some ((), (r1.2.1, ())))


def normLess_c : Ctr := ⟨[.ro y0, .ro y0], [.val yi64], fun v => normLess v.1 v.2.1⟩
def normLess_h : Nat → Option LH := fun i => none
def normLess_g : List (Nat × Ctr) := [(53, cmpCompare_c)]
theorem normLess_eq (v : PDen normLess_c.ps) : semF tbl (gam normLess_g) normLess_h fuelN 10 (bodyOf Tryz.f52) normLess_c.ps normLess_c.rs [4] [] v = normLess_c.g v := by kernel_rfl

/- 115: cmp.isNaN[string] -/
def isNaNS (p0 : List UInt8) : Option (Unit × (Bool × Unit)) :=
 some ((), ((!(p0 == p0)), ()))


def isNaNS_c : Ctr := ⟨[.ro .str], [.val .bool], fun v => isNaNS v.1⟩
def isNaNS_h : Nat → Option LH := fun i => none
def isNaNS_g : List (Nat × Ctr) := []
theorem isNaNS_eq (v : PDen isNaNS_c.ps) : semF tbl (gam isNaNS_g) isNaNS_h fuelN 6 (bodyOf Tryz.f115) isNaNS_c.ps isNaNS_c.rs [2] [] v = isNaNS_c.g v := by kernel_rfl

/- 101: cmp.Less[string] -/
def cmpLessS (p0 : List UInt8) (p1 : List UInt8) : Option (Unit × (Bool × Unit)) :=
 (Option.bind (isNaNS p0) fun r1 =>
 bif r1.2.1 then
 (Option.bind (isNaNS p1) fun r2 =>
 bif (!r2.2.1) then
 some ((), (true, ()))
 else
 some ((), ((Op.bytesLess p0 p1), ())))
 else
 some ((), ((Op.bytesLess p0 p1), ())))


def cmpLessS_c : Ctr := ⟨[.ro .str, .ro .str], [.val .bool], fun v => cmpLessS v.1 v.2.1⟩
def cmpLessS_h : Nat → Option LH := fun i => none
def cmpLessS_g : List (Nat × Ctr) := [(115, isNaNS_c)]
theorem cmpLessS_eq (v : PDen cmpLessS_c.ps) : semF tbl (gam cmpLessS_g) cmpLessS_h fuelN 17 (bodyOf Tryz.f101) cmpLessS_c.ps cmpLessS_c.rs [4] [] v = cmpLessS_c.g v := by kernel_rfl

/- 78: slices.Compact[[]int32,int32] -/
def compactI_s14 (a0 : List Int) (a3 : Int) (a4 : (Nat × Nat)) (a5 : Int) : Option ((List Int × (Int × ((Nat × Nat) × (Int × Unit)))) ⊕ (List Int × (Int × Unit))) :=
 (Option.bind (show Option ((List Int × (Int × ((Nat × Nat) × (Int × Unit)))) ⊕ (List Int × (Int × Unit))) from
 bif (decide (a5 < (a4.2 : Int))) then
 some (.inl (a0, (a3, (a4, (a5, ())))))
 else
 some (.inr (a0, (a3, ())))) fun y16 =>
 (match y16 with
 | .inl y16 =>
 (Option.bind (show Option (List Int × (Int × ((Nat × Nat) × (Int × Unit)))) from
 bif (inR y16.2.2.2.1 y16.2.2.1.2) then
 (Option.bind (lk y16.1 (plusI y16.2.2.1.1 y16.2.2.2.1)) fun x18 =>
 bif (inR (IntKind.i64.wrap (y16.2.2.2.1 - (1 : Int))) y16.2.2.1.2) then
 let v19 := (plusI y16.2.2.1.1 (IntKind.i64.wrap (y16.2.2.2.1 - (1 : Int))))
 (Option.bind (lk y16.1 v19) fun x20 =>
 bif (x18 != x20) then
 bif (inR y16.2.2.2.1 y16.2.2.1.2) then
 (Option.bind (lk y16.1 (plusI y16.2.2.1.1 y16.2.2.2.1)) fun x21 =>
 (Option.bind (lk y16.1 y16.2.1) fun _x22 =>
 (Option.bind (lk y16.1 y16.2.1) fun x23 =>
 some ((y16.1.set y16.2.1.toNat x21), ((IntKind.i64.wrap (y16.2.1 + (1 : Int))), (y16.2.2.1, (y16.2.2.2.1, ())))))))
 else none
 else
 some (y16.1, (y16.2.1, (y16.2.2.1, (y16.2.2.2.1, ())))))
 else none)
 else none) fun y24 =>
 some (.inl (y24.1, (y24.2.1, (y24.2.2.1, ((IntKind.i64.wrap (y24.2.2.2.1 + (1 : Int))), ()))))))
 | .inr y16 =>
 some (.inr (y16.1, (y16.2.1, ())))))

def compactI_s4 (a0 : List Int) (a3 : Int) : Option ((List Int × (Int × Unit)) ⊕ ((List Int × Unit) ⊕ (List Int × Unit))) :=
 (Option.bind (show Option ((List Int × (Int × Unit)) ⊕ (List Int × Unit)) from
 bif (decide (a3 < (a0.length : Int))) then
 some (.inl (a0, (a3, ())))
 else
 some (.inr (a0, ()))) fun y6 =>
 (match y6 with
 | .inl y6 =>
 (Option.bind (show Option ((List Int × Unit) ⊕ (List Int × (Int × Unit))) from
 (Option.bind (lk y6.1 y6.2.1) fun _x8 =>
 (Option.bind (lk y6.1 y6.2.1) fun x9 =>
 (Option.bind (lk y6.1 (IntKind.i64.wrap (y6.2.1 - (1 : Int)))) fun _x10 =>
 (Option.bind (lk y6.1 (IntKind.i64.wrap (y6.2.1 - (1 : Int)))) fun x11 =>
 bif (x9 == x11) then
 bif (inB y6.2.1 (y6.1.length : Int) y6.1.length) then
 (Option.bind (show Option (List Int × (Int × Unit)) from
 (Option.bind (iterN (fun x => compactI_s14 x.1 x.2.1 x.2.2.1 x.2.2.2.1) fuelN (y6.1, (y6.2.1, ((y6.2.1.toNat, ((y6.1.length : Int) - y6.2.1).toNat), ((1 : Int), ()))))) fun y25 =>
 some (y25.1, (y25.2.1, ())))) fun y26 =>
 bif (inB y26.2.1 (y26.1.length : Int) y26.1.length) then
 let l27 := (clrL y26.1 y26.2.1.toNat ((y26.1.length : Int) - y26.2.1).toNat (0 : Int))
 bif (inB (0 : Int) y26.2.1 l27.length) then
 some (.inl ((((l27).drop (0 : Int).toNat).take (y26.2.1 - (0 : Int)).toNat), ()))
 else none
 else none)
 else none
 else
 some (.inr (y6.1, (y6.2.1, ())))))))) fun y28 =>
 (match y28 with
 | .inl y28 =>
 some (.inr (.inl (y28.1, ())))
 | .inr y28 =>
 some (.inl (y28.1, ((IntKind.i64.wrap (y28.2.1 + (1 : Int))), ())))))
 | .inr y6 =>
 some (.inr (.inr (y6.1, ())))))

def compactI (p0 : List Int) : Option (Unit × (List Int × Unit)) :=
 (Option.bind (show Option ((List Int × Unit) ⊕ (List Int × Unit)) from
 bif (decide ((p0.length : Int) < (2 : Int))) then
 some (.inl (p0, ()))
 else
 some (.inr (p0, ()))) fun y2 =>
 (match y2 with
 | .inl y2 =>
 some ((), (y2.1, ()))
 | .inr y2 =>
 (Option.bind (iterN (fun x => compactI_s4 x.1 x.2.1) fuelN (y2.1, ((1 : Int), ()))) fun y29 =>
 (match y29 with
 | .inl y29 =>
 some ((), (y29.1, ()))
 | .inr y29 =>
 some ((), (y29.1, ()))))))


def compactI_c : Ctr := ⟨[.own (.vec yi32)], [.own (.vec yi32)], fun v => compactI v.1⟩
def compactI_h : Nat → Option LH := fun i => if i = 4 then some ⟨⟨[(0, (.vec yi32)), (3, yi64)], []⟩, [(.ret, ⟨[(2, (.vec yi32))], []⟩), ((.exit 0), ⟨[(0, (.vec yi32))], []⟩)]⟩ else if i = 1060005 then some ⟨⟨[], []⟩, [(.ret, ⟨[(2, (.vec yi32))], []⟩), (.normal, ⟨[(0, (.vec yi32)), (3, yi64)], []⟩)]⟩ else if i = 1080014 then some ⟨⟨[], []⟩, [(.normal, ⟨[(0, (.vec yi32)), (3, yi64)], []⟩)]⟩ else if i = 9 then some ⟨⟨[(0, (.vec yi32)), (3, yi64), (4, (.osl 0)), (5, yi64)], []⟩, [((.exit 2), ⟨[(0, (.vec yi32)), (3, yi64)], []⟩)]⟩ else if i = 1110010 then some ⟨⟨[], []⟩, [(.normal, ⟨[(0, (.vec yi32)), (3, yi64), (4, (.osl 0)), (5, yi64)], []⟩)]⟩ else if i = 1090011 then some ⟨⟨[], []⟩, [(.normal, ⟨[(0, (.vec yi32)), (3, yi64), (4, (.osl 0)), (5, yi64)], []⟩), ((.exit 2), ⟨[(0, (.vec yi32)), (3, yi64)], []⟩)]⟩ else if i = 1040006 then some ⟨⟨[], []⟩, [(.normal, ⟨[(0, (.vec yi32)), (3, yi64)], []⟩), ((.exit 0), ⟨[(0, (.vec yi32))], []⟩)]⟩ else if i = 1010003 then some ⟨⟨[], []⟩, [(.ret, ⟨[(2, (.vec yi32))], []⟩), (.normal, ⟨[(0, (.vec yi32))], []⟩)]⟩ else none
def compactI_g : List (Nat × Ctr) := []
theorem compactI_eq (v : PDen compactI_c.ps) : semF tbl (gam compactI_g) compactI_h fuelN 61 (bodyOf Tryz.f78) compactI_c.ps compactI_c.rs [2] [] v = compactI_c.g v := by kernel_rfl

/- 55: slices.Compact[[]string,string] -/
def compactS_s14 (a0 : List (List UInt8)) (a3 : Int) (a4 : (Nat × Nat)) (a5 : Int) : Option ((List (List UInt8) × (Int × ((Nat × Nat) × (Int × Unit)))) ⊕ (List (List UInt8) × (Int × Unit))) :=
 (Option.bind (show Option ((List (List UInt8) × (Int × ((Nat × Nat) × (Int × Unit)))) ⊕ (List (List UInt8) × (Int × Unit))) from
 bif (decide (a5 < (a4.2 : Int))) then
 some (.inl (a0, (a3, (a4, (a5, ())))))
 else
 some (.inr (a0, (a3, ())))) fun y16 =>
 (match y16 with
 | .inl y16 =>
 (Option.bind (show Option (List (List UInt8) × (Int × ((Nat × Nat) × (Int × Unit)))) from
 bif (inR y16.2.2.2.1 y16.2.2.1.2) then
 (Option.bind (lk y16.1 (plusI y16.2.2.1.1 y16.2.2.2.1)) fun x18 =>
 bif (inR (IntKind.i64.wrap (y16.2.2.2.1 - (1 : Int))) y16.2.2.1.2) then
 let v19 := (plusI y16.2.2.1.1 (IntKind.i64.wrap (y16.2.2.2.1 - (1 : Int))))
 (Option.bind (lk y16.1 v19) fun x20 =>
 bif (!(x18 == x20)) then
 bif (inR y16.2.2.2.1 y16.2.2.1.2) then
 (Option.bind (lk y16.1 (plusI y16.2.2.1.1 y16.2.2.2.1)) fun x21 =>
 (Option.bind (lk y16.1 y16.2.1) fun _x22 =>
 (Option.bind (lk y16.1 y16.2.1) fun x23 =>
 some ((y16.1.set y16.2.1.toNat x21), ((IntKind.i64.wrap (y16.2.1 + (1 : Int))), (y16.2.2.1, (y16.2.2.2.1, ())))))))
 else none
 else
 some (y16.1, (y16.2.1, (y16.2.2.1, (y16.2.2.2.1, ())))))
 else none)
 else none) fun y24 =>
 some (.inl (y24.1, (y24.2.1, (y24.2.2.1, ((IntKind.i64.wrap (y24.2.2.2.1 + (1 : Int))), ()))))))
 | .inr y16 =>
 some (.inr (y16.1, (y16.2.1, ())))))

def compactS_s4 (a0 : List (List UInt8)) (a3 : Int) : Option ((List (List UInt8) × (Int × Unit)) ⊕ ((List (List UInt8) × Unit) ⊕ (List (List UInt8) × Unit))) :=
 (Option.bind (show Option ((List (List UInt8) × (Int × Unit)) ⊕ (List (List UInt8) × Unit)) from
 bif (decide (a3 < (a0.length : Int))) then
 some (.inl (a0, (a3, ())))
 else
 some (.inr (a0, ()))) fun y6 =>
 (match y6 with
 | .inl y6 =>
 (Option.bind (show Option ((List (List UInt8) × Unit) ⊕ (List (List UInt8) × (Int × Unit))) from
 (Option.bind (lk y6.1 y6.2.1) fun _x8 =>
 (Option.bind (lk y6.1 y6.2.1) fun x9 =>
 (Option.bind (lk y6.1 (IntKind.i64.wrap (y6.2.1 - (1 : Int)))) fun _x10 =>
 (Option.bind (lk y6.1 (IntKind.i64.wrap (y6.2.1 - (1 : Int)))) fun x11 =>
 bif (x9 == x11) then
 bif (inB y6.2.1 (y6.1.length : Int) y6.1.length) then
 (Option.bind (show Option (List (List UInt8) × (Int × Unit)) from
 (Option.bind (iterN (fun x => compactS_s14 x.1 x.2.1 x.2.2.1 x.2.2.2.1) fuelN (y6.1, (y6.2.1, ((y6.2.1.toNat, ((y6.1.length : Int) - y6.2.1).toNat), ((1 : Int), ()))))) fun y25 =>
 some (y25.1, (y25.2.1, ())))) fun y26 =>
 bif (inB y26.2.1 (y26.1.length : Int) y26.1.length) then
 let l27 := (clrL y26.1 y26.2.1.toNat ((y26.1.length : Int) - y26.2.1).toNat ([] : List UInt8))
 bif (inB (0 : Int) y26.2.1 l27.length) then
 some (.inl ((((l27).drop (0 : Int).toNat).take (y26.2.1 - (0 : Int)).toNat), ()))
 else none
 else none)
 else none
 else
 some (.inr (y6.1, (y6.2.1, ())))))))) fun y28 =>
 (match y28 with
 | .inl y28 =>
 some (.inr (.inl (y28.1, ())))
 | .inr y28 =>
 some (.inl (y28.1, ((IntKind.i64.wrap (y28.2.1 + (1 : Int))), ())))))
 | .inr y6 =>
 some (.inr (.inr (y6.1, ())))))

def compactS (p0 : List (List UInt8)) : Option (Unit × (List (List UInt8) × Unit)) :=
 (Option.bind (show Option ((List (List UInt8) × Unit) ⊕ (List (List UInt8) × Unit)) from
 bif (decide ((p0.length : Int) < (2 : Int))) then
 some (.inl (p0, ()))
 else
 some (.inr (p0, ()))) fun y2 =>
 (match y2 with
 | .inl y2 =>
 some ((), (y2.1, ()))
 | .inr y2 =>
 (Option.bind (iterN (fun x => compactS_s4 x.1 x.2.1) fuelN (y2.1, ((1 : Int), ()))) fun y29 =>
 (match y29 with
 | .inl y29 =>
 some ((), (y29.1, ()))
 | .inr y29 =>
 some ((), (y29.1, ()))))))


def compactS_c : Ctr := ⟨[.own (.vec .str)], [.own (.vec .str)], fun v => compactS v.1⟩
def compactS_h : Nat → Option LH := fun i => if i = 4 then some ⟨⟨[(0, (.vec .str)), (3, yi64)], []⟩, [(.ret, ⟨[(2, (.vec .str))], []⟩), ((.exit 0), ⟨[(0, (.vec .str))], []⟩)]⟩ else if i = 1060005 then some ⟨⟨[], []⟩, [(.ret, ⟨[(2, (.vec .str))], []⟩), (.normal, ⟨[(0, (.vec .str)), (3, yi64)], []⟩)]⟩ else if i = 1080014 then some ⟨⟨[], []⟩, [(.normal, ⟨[(0, (.vec .str)), (3, yi64)], []⟩)]⟩ else if i = 9 then some ⟨⟨[(0, (.vec .str)), (3, yi64), (4, (.osl 0)), (5, yi64)], []⟩, [((.exit 2), ⟨[(0, (.vec .str)), (3, yi64)], []⟩)]⟩ else if i = 1110010 then some ⟨⟨[], []⟩, [(.normal, ⟨[(0, (.vec .str)), (3, yi64), (4, (.osl 0)), (5, yi64)], []⟩)]⟩ else if i = 1090011 then some ⟨⟨[], []⟩, [(.normal, ⟨[(0, (.vec .str)), (3, yi64), (4, (.osl 0)), (5, yi64)], []⟩), ((.exit 2), ⟨[(0, (.vec .str)), (3, yi64)], []⟩)]⟩ else if i = 1040006 then some ⟨⟨[], []⟩, [(.normal, ⟨[(0, (.vec .str)), (3, yi64)], []⟩), ((.exit 0), ⟨[(0, (.vec .str))], []⟩)]⟩ else if i = 1010003 then some ⟨⟨[], []⟩, [(.ret, ⟨[(2, (.vec .str))], []⟩), (.normal, ⟨[(0, (.vec .str))], []⟩)]⟩ else none
def compactS_g : List (Nat × Ctr) := []
theorem compactS_eq (v : PDen compactS_c.ps) : semF tbl (gam compactS_g) compactS_h fuelN 61 (bodyOf Tryz.f55) compactS_c.ps compactS_c.rs [2] [] v = compactS_c.g v := by kernel_rfl

/- 94: i_len64 -/
def i_len64_c : Ctr := ⟨[.ro yu64], [.val yi64], fun v => Srt.len64 v.1⟩
def i_len64_h : Nat → Option LH := fun i => if i = 1070010 then some ⟨⟨[], []⟩, [(.normal, ⟨[(0, yu64), (2, yi64)], []⟩)]⟩ else if i = 1040007 then some ⟨⟨[], []⟩, [(.normal, ⟨[(0, yu64), (2, yi64)], []⟩)]⟩ else if i = 1010004 then some ⟨⟨[], []⟩, [(.normal, ⟨[(0, yu64), (2, yi64)], []⟩)]⟩ else none
def i_len64_g : List (Nat × Ctr) := []
theorem i_len64_eq (v : PDen i_len64_c.ps) : semF tbl (gam i_len64_g) i_len64_h fuelN 25 (bodyOf Tryz.f94) i_len64_c.ps i_len64_c.rs [2] [] v = i_len64_c.g v := by kernel_rfl

/- 72: i_bitsLen -/
def i_bitsLen_c : Ctr := ⟨[.ro yu64], [.val yi64], fun v => Srt.bitsLen v.1⟩
def i_bitsLen_h : Nat → Option LH := fun i => if i = 1010002 then some ⟨⟨[], []⟩, [(.normal, ⟨[(0, yu64)], []⟩)]⟩ else none
def i_bitsLen_g : List (Nat × Ctr) := [(94, i_len64_c)]
theorem i_bitsLen_eq (v : PDen i_bitsLen_c.ps) : semF tbl (gam i_bitsLen_g) i_bitsLen_h fuelN 8 (bodyOf Tryz.f72) i_bitsLen_c.ps i_bitsLen_c.rs [2] [] v = i_bitsLen_c.g v := by kernel_rfl

/- 108: i_nextPow -/
def i_nextPow_c : Ctr := ⟨[.ro yi64], [.val yu64], fun v => Srt.nextPow v.1⟩
def i_nextPow_h : Nat → Option LH := fun i => none
def i_nextPow_g : List (Nat × Ctr) := [(72, i_bitsLen_c)]
theorem i_nextPow_eq (v : PDen i_nextPow_c.ps) : semF tbl (gam i_nextPow_g) i_nextPow_h fuelN 7 (bodyOf Tryz.f108) i_nextPow_c.ps i_nextPow_c.rs [2] [] v = i_nextPow_c.g v := by kernel_rfl

/- 109: i_xorNext -/
def i_xorNext_c : Ctr := ⟨[.mu (.bx yu64)], [.val yu64], fun v => Srt.xorNext v.1⟩
def i_xorNext_h : Nat → Option LH := fun i => none
def i_xorNext_g : List (Nat × Ctr) := []
theorem i_xorNext_eq (v : PDen i_xorNext_c.ps) : semF tbl (gam i_xorNext_g) i_xorNext_h fuelN 33 (bodyOf Tryz.f109) i_xorNext_c.ps i_xorNext_c.rs [2] [] v = i_xorNext_c.g v := by kernel_rfl

/- 116: i_insSort -/
def i_insSort_c : Ctr := ⟨[.mu (.vec yi32), .ro yi64, .ro yi64], [], fun v => Srt.insSort i_less v.1 v.2.1 v.2.2.1⟩
def i_insSort_h : Nat → Option LH := fun i => if i = 1 then some ⟨⟨[(0, (.vec yi32)), (1, yi64), (2, yi64), (6, yi64)], []⟩, [((.exit 0), ⟨[(0, (.vec yi32))], []⟩)]⟩ else if i = 1030002 then some ⟨⟨[], []⟩, [(.normal, ⟨[(0, (.vec yi32)), (1, yi64), (2, yi64), (6, yi64)], []⟩)]⟩ else if i = 4 then some ⟨⟨[(0, (.vec yi32)), (1, yi64), (2, yi64), (6, yi64), (7, yi64)], []⟩, [((.exit 2), ⟨[(0, (.vec yi32)), (1, yi64), (2, yi64), (6, yi64)], []⟩)]⟩ else if i = 1060005 then some ⟨⟨[], []⟩, [(.normal, ⟨[(0, (.vec yi32)), (1, yi64), (2, yi64), (6, yi64), (7, yi64)], []⟩)]⟩ else if i = 1040006 then some ⟨⟨[], []⟩, [(.normal, ⟨[(0, (.vec yi32)), (1, yi64), (2, yi64), (6, yi64), (7, yi64)], []⟩), ((.exit 2), ⟨[(0, (.vec yi32)), (1, yi64), (2, yi64), (6, yi64)], []⟩)]⟩ else if i = 1010003 then some ⟨⟨[], []⟩, [(.normal, ⟨[(0, (.vec yi32)), (1, yi64), (2, yi64), (6, yi64)], []⟩), ((.exit 0), ⟨[(0, (.vec yi32))], []⟩)]⟩ else none
def i_insSort_g : List (Nat × Ctr) := [(122, i_less_c)]
theorem i_insSort_eq (v : PDen i_insSort_c.ps) : semF tbl (gam i_insSort_g) i_insSort_h fuelN 49 (bodyOf Tryz.f116) i_insSort_c.ps i_insSort_c.rs [] [] v = i_insSort_c.g v := by kernel_rfl

/- 128: i_siftDown -/
def i_siftDown_c : Ctr := ⟨[.mu (.vec yi32), .ro yi64, .ro yi64, .ro yi64], [], fun v => Srt.siftDown i_less v.1 v.2.1 v.2.2.1 v.2.2.2.1⟩
def i_siftDown_h : Nat → Option LH := fun i => if i = 1 then some ⟨⟨[(0, (.vec yi32)), (2, yi64), (3, yi64), (8, yi64)], []⟩, [((.exit 0), ⟨[(0, (.vec yi32))], []⟩), (.ret, ⟨[(0, (.vec yi32))], []⟩)]⟩ else if i = 1050006 then some ⟨⟨[], []⟩, [(.ret, ⟨[(0, (.vec yi32))], []⟩), (.normal, ⟨[(0, (.vec yi32)), (2, yi64), (3, yi64), (8, yi64), (9, yi64)], []⟩)]⟩ else if i = 1030005 then some ⟨⟨[], []⟩, [(.normal, ⟨[(0, (.vec yi32)), (2, yi64), (3, yi64), (8, yi64), (9, yi64)], []⟩)]⟩ else if i = 1030004 then some ⟨⟨[], []⟩, [(.normal, ⟨[(0, (.vec yi32)), (2, yi64), (3, yi64), (8, yi64), (9, yi64), (36, .bool)], []⟩)]⟩ else if i = 1020003 then some ⟨⟨[], []⟩, [((.exit 0), ⟨[(0, (.vec yi32))], []⟩), (.normal, ⟨[(0, (.vec yi32)), (2, yi64), (3, yi64), (8, yi64), (9, yi64)], []⟩)]⟩ else none
def i_siftDown_g : List (Nat × Ctr) := [(122, i_less_c)]
theorem i_siftDown_eq (v : PDen i_siftDown_c.ps) : semF tbl (gam i_siftDown_g) i_siftDown_h fuelN 76 (bodyOf Tryz.f128) i_siftDown_c.ps i_siftDown_c.rs [] [] v = i_siftDown_c.g v := by kernel_rfl

/- 117: i_heapSort -/
def i_heapSort_c : Ctr := ⟨[.mu (.vec yi32), .ro yi64, .ro yi64], [], fun v => Srt.heapSort i_less v.1 v.2.1 v.2.2.1⟩
def i_heapSort_h : Nat → Option LH := fun i => if i = 8 then some ⟨⟨[(0, (.vec yi32)), (6, yi64), (7, yi64), (10, yi64)], []⟩, [((.exit 2), ⟨[(0, (.vec yi32))], []⟩)]⟩ else if i = 1100009 then some ⟨⟨[], []⟩, [(.normal, ⟨[(0, (.vec yi32)), (6, yi64), (7, yi64), (10, yi64)], []⟩)]⟩ else if i = 1080010 then some ⟨⟨[], []⟩, [(.normal, ⟨[(0, (.vec yi32)), (6, yi64), (7, yi64), (10, yi64)], []⟩), ((.exit 2), ⟨[(0, (.vec yi32))], []⟩)]⟩ else if i = 1030007 then some ⟨⟨[], []⟩, [(.normal, ⟨[(0, (.vec yi32)), (6, yi64), (7, yi64), (8, yi64)], []⟩)]⟩ else if i = 4 then some ⟨⟨[(0, (.vec yi32)), (6, yi64), (7, yi64), (8, yi64), (9, yi64)], []⟩, [((.exit 0), ⟨[(0, (.vec yi32)), (6, yi64), (7, yi64), (8, yi64)], []⟩)]⟩ else if i = 1060005 then some ⟨⟨[], []⟩, [(.normal, ⟨[(0, (.vec yi32)), (6, yi64), (7, yi64), (8, yi64), (9, yi64)], []⟩)]⟩ else if i = 1040006 then some ⟨⟨[], []⟩, [(.normal, ⟨[(0, (.vec yi32)), (6, yi64), (7, yi64), (8, yi64), (9, yi64)], []⟩), ((.exit 0), ⟨[(0, (.vec yi32)), (6, yi64), (7, yi64), (8, yi64)], []⟩)]⟩ else none
def i_heapSort_g : List (Nat × Ctr) := [(128, i_siftDown_c)]
theorem i_heapSort_eq (v : PDen i_heapSort_c.ps) : semF tbl (gam i_heapSort_g) i_heapSort_h fuelN 56 (bodyOf Tryz.f117) i_heapSort_c.ps i_heapSort_c.rs [] [] v = i_heapSort_c.g v := by kernel_rfl

/- 118: i_breakPat -/
def i_breakPat_c : Ctr := ⟨[.mu (.vec yi32), .ro yi64, .ro yi64], [], fun v => Srt.breakPat v.1 v.2.1 v.2.2.1⟩
def i_breakPat_h : Nat → Option LH := fun i => if i = 5 then some ⟨⟨[(0, (.vec yi32)), (1, yi64), (6, yi64), (7, (.bx yu64)), (8, yu64), (9, yi64)], []⟩, [((.exit 0), ⟨[(0, (.vec yi32))], []⟩)]⟩ else if i = 1070006 then some ⟨⟨[], []⟩, [(.normal, ⟨[(0, (.vec yi32)), (1, yi64), (6, yi64), (7, (.bx yu64)), (8, yu64), (9, yi64)], []⟩)]⟩ else if i = 1080010 then some ⟨⟨[], []⟩, [(.normal, ⟨[(0, (.vec yi32)), (1, yi64), (6, yi64), (7, (.bx yu64)), (8, yu64), (9, yi64), (10, yi64)], []⟩)]⟩ else if i = 1050007 then some ⟨⟨[], []⟩, [(.normal, ⟨[(0, (.vec yi32)), (1, yi64), (6, yi64), (7, (.bx yu64)), (8, yu64), (9, yi64)], []⟩), ((.exit 0), ⟨[(0, (.vec yi32))], []⟩)]⟩ else none
def i_breakPat_g : List (Nat × Ctr) := [(108, i_nextPow_c), (109, i_xorNext_c)]
theorem i_breakPat_eq (v : PDen i_breakPat_c.ps) : semF tbl (gam i_breakPat_g) i_breakPat_h fuelN 65 (bodyOf Tryz.f118) i_breakPat_c.ps i_breakPat_c.rs [] [] v = i_breakPat_c.g v := by kernel_rfl

/- 131: i_order2 -/
def i_order2_c : Ctr := ⟨[.ro (.slice yi32), .ro yi64, .ro yi64, .mu (.bx yi64)], [.val yi64, .val yi64], fun v => Srt.order2 i_less v.1 v.2.1 v.2.2.1 v.2.2.2.1⟩
def i_order2_h : Nat → Option LH := fun i => if i = 1010004 then some ⟨⟨[], []⟩, [(.ret, ⟨[(3, (.bx yi64)), (8, yi64), (9, yi64)], []⟩), (.normal, ⟨[(1, yi64), (2, yi64), (3, (.bx yi64))], []⟩)]⟩ else none
def i_order2_g : List (Nat × Ctr) := [(122, i_less_c)]
theorem i_order2_eq (v : PDen i_order2_c.ps) : semF tbl (gam i_order2_g) i_order2_h fuelN 28 (bodyOf Tryz.f131) i_order2_c.ps i_order2_c.rs [8, 9] [] v = i_order2_c.g v := by kernel_rfl

/- 130: i_median -/
def i_median_c : Ctr := ⟨[.ro (.slice yi32), .ro yi64, .ro yi64, .ro yi64, .mu (.bx yi64)], [.val yi64], fun v => Srt.median i_less v.1 v.2.1 v.2.2.1 v.2.2.2.1 v.2.2.2.2.1⟩
def i_median_h : Nat → Option LH := fun i => none
def i_median_g : List (Nat × Ctr) := [(131, i_order2_c)]
theorem i_median_eq (v : PDen i_median_c.ps) : semF tbl (gam i_median_g) i_median_h fuelN 36 (bodyOf Tryz.f130) i_median_c.ps i_median_c.rs [10] [] v = i_median_c.g v := by kernel_rfl

/- 129: i_medianAdj -/
def i_medianAdj_c : Ctr := ⟨[.ro (.slice yi32), .ro yi64, .mu (.bx yi64)], [.val yi64], fun v => Srt.medianAdj i_less v.1 v.2.1 v.2.2.1⟩
def i_medianAdj_h : Nat → Option LH := fun i => none
def i_medianAdj_g : List (Nat × Ctr) := [(130, i_median_c)]
theorem i_medianAdj_eq (v : PDen i_medianAdj_c.ps) : semF tbl (gam i_medianAdj_g) i_medianAdj_h fuelN 15 (bodyOf Tryz.f129) i_medianAdj_c.ps i_medianAdj_c.rs [6] [] v = i_medianAdj_c.g v := by kernel_rfl

/- 119: i_choosePiv -/
def i_choosePiv_c : Ctr := ⟨[.ro (.slice yi32), .ro yi64, .ro yi64], [.val yi64, .val yi64], fun v => Srt.choosePiv i_less v.1 v.2.1 v.2.2.1⟩
def i_choosePiv_h : Nat → Option LH := fun i => if i = 1060012 then some ⟨⟨[], []⟩, [(.normal, ⟨[(9, (.bx yi64)), (11, yi64)], []⟩)]⟩ else if i = 1070011 then some ⟨⟨[], []⟩, [(.normal, ⟨[(0, (.slice yi32)), (9, (.bx yi64)), (10, yi64), (11, yi64), (12, yi64)], []⟩)]⟩ else none
def i_choosePiv_g : List (Nat × Ctr) := [(130, i_median_c), (129, i_medianAdj_c)]
theorem i_choosePiv_eq (v : PDen i_choosePiv_c.ps) : semF tbl (gam i_choosePiv_g) i_choosePiv_h fuelN 57 (bodyOf Tryz.f119) i_choosePiv_c.ps i_choosePiv_c.rs [6, 7] [] v = i_choosePiv_c.g v := by kernel_rfl

/- 120: i_revRange -/
def i_revRange_c : Ctr := ⟨[.mu (.vec yi32), .ro yi64, .ro yi64], [], fun v => Srt.revRange v.1 v.2.1 v.2.2.1⟩
def i_revRange_h : Nat → Option LH := fun i => if i = 2 then some ⟨⟨[(0, (.vec yi32)), (6, yi64), (7, yi64)], []⟩, [((.exit 0), ⟨[(0, (.vec yi32))], []⟩)]⟩ else if i = 1020003 then some ⟨⟨[], []⟩, [(.normal, ⟨[(0, (.vec yi32)), (6, yi64), (7, yi64)], []⟩), ((.exit 0), ⟨[(0, (.vec yi32))], []⟩)]⟩ else none
def i_revRange_g : List (Nat × Ctr) := []
theorem i_revRange_eq (v : PDen i_revRange_c.ps) : semF tbl (gam i_revRange_g) i_revRange_h fuelN 32 (bodyOf Tryz.f120) i_revRange_c.ps i_revRange_c.rs [] [] v = i_revRange_c.g v := by kernel_rfl

/- 121: i_partIns -/
def i_partIns_c : Ctr := ⟨[.mu (.vec yi32), .ro yi64, .ro yi64], [.val .bool], fun v => Srt.partIns i_less v.1 v.2.1 v.2.2.1⟩
def i_partIns_h : Nat → Option LH := fun i => if i = 3 then some ⟨⟨[(0, (.vec yi32)), (1, yi64), (2, yi64), (7, yi64), (8, yi64)], []⟩, [(.ret, ⟨[(0, (.vec yi32)), (6, .bool)], []⟩), ((.exit 0), ⟨[(0, (.vec yi32))], []⟩)]⟩ else if i = 1050004 then some ⟨⟨[], []⟩, [(.ret, ⟨[(0, (.vec yi32)), (6, .bool)], []⟩), (.normal, ⟨[(0, (.vec yi32)), (1, yi64), (2, yi64), (7, yi64), (8, yi64)], []⟩)]⟩ else if i = 20 then some ⟨⟨[(0, (.vec yi32)), (1, yi64), (2, yi64), (7, yi64), (8, yi64), (10, yi64)], []⟩, [((.exit 6), ⟨[(0, (.vec yi32)), (1, yi64), (2, yi64), (7, yi64), (8, yi64)], []⟩)]⟩ else if i = 1220021 then some ⟨⟨[], []⟩, [((.exit 6), ⟨[(0, (.vec yi32)), (1, yi64), (2, yi64), (7, yi64), (8, yi64)], []⟩), (.normal, ⟨[(0, (.vec yi32)), (1, yi64), (2, yi64), (7, yi64), (8, yi64), (10, yi64)], []⟩)]⟩ else if i = 1220023 then some ⟨⟨[], []⟩, [((.exit 6), ⟨[(0, (.vec yi32)), (1, yi64), (2, yi64), (7, yi64), (8, yi64)], []⟩), (.normal, ⟨[(0, (.vec yi32)), (1, yi64), (2, yi64), (7, yi64), (8, yi64), (10, yi64)], []⟩)]⟩ else if i = 1200022 then some ⟨⟨[], []⟩, [(.normal, ⟨[(0, (.vec yi32)), (1, yi64), (2, yi64), (7, yi64), (8, yi64), (10, yi64)], []⟩), ((.exit 6), ⟨[(0, (.vec yi32)), (1, yi64), (2, yi64), (7, yi64), (8, yi64)], []⟩)]⟩ else if i = 1120018 then some ⟨⟨[], []⟩, [(.normal, ⟨[(0, (.vec yi32)), (1, yi64), (2, yi64), (7, yi64), (8, yi64)], []⟩)]⟩ else if i = 14 then some ⟨⟨[(0, (.vec yi32)), (1, yi64), (2, yi64), (7, yi64), (8, yi64), (9, yi64)], []⟩, [((.exit 4), ⟨[(0, (.vec yi32)), (1, yi64), (2, yi64), (7, yi64), (8, yi64)], []⟩)]⟩ else if i = 1160015 then some ⟨⟨[], []⟩, [((.exit 4), ⟨[(0, (.vec yi32)), (1, yi64), (2, yi64), (7, yi64), (8, yi64)], []⟩), (.normal, ⟨[(0, (.vec yi32)), (1, yi64), (2, yi64), (7, yi64), (8, yi64), (9, yi64)], []⟩)]⟩ else if i = 1160017 then some ⟨⟨[], []⟩, [((.exit 4), ⟨[(0, (.vec yi32)), (1, yi64), (2, yi64), (7, yi64), (8, yi64)], []⟩), (.normal, ⟨[(0, (.vec yi32)), (1, yi64), (2, yi64), (7, yi64), (8, yi64), (9, yi64)], []⟩)]⟩ else if i = 1140016 then some ⟨⟨[], []⟩, [(.normal, ⟨[(0, (.vec yi32)), (1, yi64), (2, yi64), (7, yi64), (8, yi64), (9, yi64)], []⟩), ((.exit 4), ⟨[(0, (.vec yi32)), (1, yi64), (2, yi64), (7, yi64), (8, yi64)], []⟩)]⟩ else if i = 1090011 then some ⟨⟨[], []⟩, [(.ret, ⟨[(0, (.vec yi32)), (6, .bool)], []⟩), (.normal, ⟨[(0, (.vec yi32)), (1, yi64), (2, yi64), (7, yi64), (8, yi64)], []⟩)]⟩ else if i = 1070009 then some ⟨⟨[], []⟩, [(.ret, ⟨[(0, (.vec yi32)), (6, .bool)], []⟩), (.normal, ⟨[(0, (.vec yi32)), (1, yi64), (2, yi64), (7, yi64), (8, yi64)], []⟩)]⟩ else if i = 1050007 then some ⟨⟨[], []⟩, [(.normal, ⟨[(0, (.vec yi32)), (1, yi64), (2, yi64), (7, yi64), (8, yi64)], []⟩)]⟩ else if i = 5 then some ⟨⟨[(0, (.vec yi32)), (1, yi64), (2, yi64), (7, yi64), (8, yi64)], []⟩, [((.exit 2), ⟨[(0, (.vec yi32)), (1, yi64), (2, yi64), (7, yi64), (8, yi64)], []⟩)]⟩ else if i = 1050006 then some ⟨⟨[], []⟩, [(.normal, ⟨[(0, (.vec yi32)), (1, yi64), (2, yi64), (7, yi64), (8, yi64)], []⟩), ((.exit 2), ⟨[(0, (.vec yi32)), (1, yi64), (2, yi64), (7, yi64), (8, yi64)], []⟩)]⟩ else if i = 1030005 then some ⟨⟨[], []⟩, [(.normal, ⟨[(0, (.vec yi32)), (1, yi64), (2, yi64), (7, yi64), (8, yi64)], []⟩), ((.exit 0), ⟨[(0, (.vec yi32))], []⟩)]⟩ else none
def i_partIns_g : List (Nat × Ctr) := [(122, i_less_c)]
theorem i_partIns_eq (v : PDen i_partIns_c.ps) : semF tbl (gam i_partIns_g) i_partIns_h fuelN 133 (bodyOf Tryz.f121) i_partIns_c.ps i_partIns_c.rs [6] [] v = i_partIns_c.g v := by kernel_rfl

/- 123: i_partEq -/
def i_partEq_c : Ctr := ⟨[.mu (.vec yi32), .ro yi64, .ro yi64, .ro yi64], [.val yi64], fun v => Srt.partEq i_less v.1 v.2.1 v.2.2.1 v.2.2.2.1⟩
def i_partEq_h : Nat → Option LH := fun i => if i = 100003 then some ⟨⟨[(0, (.vec yi32)), (1, yi64), (9, yi64), (10, yi64)], []⟩, [((.exit 0), ⟨[(0, (.vec yi32)), (9, yi64)], []⟩)]⟩ else if i = 1070008 then some ⟨⟨[], []⟩, [((.exit 0), ⟨[(0, (.vec yi32)), (9, yi64)], []⟩), (.normal, ⟨[(0, (.vec yi32)), (1, yi64), (9, yi64), (10, yi64)], []⟩)]⟩ else if i = 1050007 then some ⟨⟨[], []⟩, [(.normal, ⟨[(0, (.vec yi32)), (1, yi64), (9, yi64), (10, yi64)], []⟩)]⟩ else if i = 5 then some ⟨⟨[(0, (.vec yi32)), (1, yi64), (9, yi64), (10, yi64)], []⟩, [((.exit 4), ⟨[(0, (.vec yi32)), (1, yi64), (9, yi64), (10, yi64)], []⟩)]⟩ else if i = 1050006 then some ⟨⟨[], []⟩, [(.normal, ⟨[(0, (.vec yi32)), (1, yi64), (9, yi64), (10, yi64)], []⟩), ((.exit 4), ⟨[(0, (.vec yi32)), (1, yi64), (9, yi64), (10, yi64)], []⟩)]⟩ else if i = 1030005 then some ⟨⟨[], []⟩, [(.normal, ⟨[(0, (.vec yi32)), (1, yi64), (9, yi64), (10, yi64)], []⟩)]⟩ else if i = 3 then some ⟨⟨[(0, (.vec yi32)), (1, yi64), (9, yi64), (10, yi64)], []⟩, [((.exit 2), ⟨[(0, (.vec yi32)), (1, yi64), (9, yi64), (10, yi64)], []⟩)]⟩ else if i = 1030004 then some ⟨⟨[], []⟩, [(.normal, ⟨[(0, (.vec yi32)), (1, yi64), (9, yi64), (10, yi64)], []⟩), ((.exit 2), ⟨[(0, (.vec yi32)), (1, yi64), (9, yi64), (10, yi64)], []⟩)]⟩ else none
def i_partEq_g : List (Nat × Ctr) := [(122, i_less_c)]
theorem i_partEq_eq (v : PDen i_partEq_c.ps) : semF tbl (gam i_partEq_g) i_partEq_h fuelN 84 (bodyOf Tryz.f123) i_partEq_c.ps i_partEq_c.rs [8] [] v = i_partEq_c.g v := by kernel_rfl

/- 124: i_partition -/
def i_partition_c : Ctr := ⟨[.mu (.vec yi32), .ro yi64, .ro yi64, .ro yi64], [.val yi64, .val .bool], fun v => Srt.partition i_less v.1 v.2.1 v.2.2.1 v.2.2.2.1⟩
def i_partition_h : Nat → Option LH := fun i => if i = 1130021 then some ⟨⟨[], []⟩, [(.normal, ⟨[(0, (.vec yi32)), (1, yi64), (11, yi64)], []⟩)]⟩ else if i = 100013 then some ⟨⟨[(0, (.vec yi32)), (1, yi64), (10, yi64), (11, yi64)], []⟩, [((.exit 4), ⟨[(0, (.vec yi32)), (1, yi64), (11, yi64)], []⟩)]⟩ else if i = 1170018 then some ⟨⟨[], []⟩, [((.exit 4), ⟨[(0, (.vec yi32)), (1, yi64), (11, yi64)], []⟩), (.normal, ⟨[(0, (.vec yi32)), (1, yi64), (10, yi64), (11, yi64)], []⟩)]⟩ else if i = 1150017 then some ⟨⟨[], []⟩, [(.normal, ⟨[(0, (.vec yi32)), (1, yi64), (10, yi64), (11, yi64)], []⟩)]⟩ else if i = 15 then some ⟨⟨[(0, (.vec yi32)), (1, yi64), (10, yi64), (11, yi64)], []⟩, [((.exit 8), ⟨[(0, (.vec yi32)), (1, yi64), (10, yi64), (11, yi64)], []⟩)]⟩ else if i = 1150016 then some ⟨⟨[], []⟩, [(.normal, ⟨[(0, (.vec yi32)), (1, yi64), (10, yi64), (11, yi64)], []⟩), ((.exit 8), ⟨[(0, (.vec yi32)), (1, yi64), (10, yi64), (11, yi64)], []⟩)]⟩ else if i = 1130015 then some ⟨⟨[], []⟩, [(.normal, ⟨[(0, (.vec yi32)), (1, yi64), (10, yi64), (11, yi64)], []⟩)]⟩ else if i = 13 then some ⟨⟨[(0, (.vec yi32)), (1, yi64), (10, yi64), (11, yi64)], []⟩, [((.exit 6), ⟨[(0, (.vec yi32)), (1, yi64), (10, yi64), (11, yi64)], []⟩)]⟩ else if i = 1130014 then some ⟨⟨[], []⟩, [(.normal, ⟨[(0, (.vec yi32)), (1, yi64), (10, yi64), (11, yi64)], []⟩), ((.exit 6), ⟨[(0, (.vec yi32)), (1, yi64), (10, yi64), (11, yi64)], []⟩)]⟩ else if i = 1070010 then some ⟨⟨[], []⟩, [(.ret, ⟨[(0, (.vec yi32)), (8, yi64), (9, .bool)], []⟩), (.normal, ⟨[(0, (.vec yi32)), (1, yi64), (10, yi64), (11, yi64)], []⟩)]⟩ else if i = 1050007 then some ⟨⟨[], []⟩, [(.normal, ⟨[(0, (.vec yi32)), (1, yi64), (10, yi64), (11, yi64)], []⟩)]⟩ else if i = 5 then some ⟨⟨[(0, (.vec yi32)), (1, yi64), (10, yi64), (11, yi64)], []⟩, [((.exit 2), ⟨[(0, (.vec yi32)), (1, yi64), (10, yi64), (11, yi64)], []⟩)]⟩ else if i = 1050006 then some ⟨⟨[], []⟩, [(.normal, ⟨[(0, (.vec yi32)), (1, yi64), (10, yi64), (11, yi64)], []⟩), ((.exit 2), ⟨[(0, (.vec yi32)), (1, yi64), (10, yi64), (11, yi64)], []⟩)]⟩ else if i = 1030005 then some ⟨⟨[], []⟩, [(.normal, ⟨[(0, (.vec yi32)), (1, yi64), (10, yi64), (11, yi64)], []⟩)]⟩ else if i = 3 then some ⟨⟨[(0, (.vec yi32)), (1, yi64), (10, yi64), (11, yi64)], []⟩, [((.exit 0), ⟨[(0, (.vec yi32)), (1, yi64), (10, yi64), (11, yi64)], []⟩)]⟩ else if i = 1030004 then some ⟨⟨[], []⟩, [(.normal, ⟨[(0, (.vec yi32)), (1, yi64), (10, yi64), (11, yi64)], []⟩), ((.exit 0), ⟨[(0, (.vec yi32)), (1, yi64), (10, yi64), (11, yi64)], []⟩)]⟩ else none
def i_partition_g : List (Nat × Ctr) := [(122, i_less_c)]
theorem i_partition_eq (v : PDen i_partition_c.ps) : semF tbl (gam i_partition_g) i_partition_h fuelN 168 (bodyOf Tryz.f124) i_partition_c.ps i_partition_c.rs [8, 9] [] v = i_partition_c.g v := by kernel_rfl

/- 105: i_pdq0 -/
def i_pdq0_c (i_pdqR : List Int → Int → Int → Int → Option (List Int × Unit)) : Ctr := ⟨[.mu (.vec yi32), .ro yi64, .ro yi64, .ro yi64], [], fun v => Srt.pdq0 i_less i_pdqR v.1 v.2.1 v.2.2.1 v.2.2.2.1⟩
def i_pdq0_h : Nat → Option LH := fun i => if i = 2 then some ⟨⟨[(0, (.vec yi32)), (1, yi64), (2, yi64), (3, yi64), (8, .bool), (9, .bool)], []⟩, [(.ret, ⟨[(0, (.vec yi32))], []⟩)]⟩ else if i = 1170020 then some ⟨⟨[], []⟩, [((.exit 1), ⟨[(0, (.vec yi32)), (1, yi64), (2, yi64), (3, yi64), (8, .bool), (9, .bool)], []⟩), (.normal, ⟨[(0, (.vec yi32)), (1, yi64), (2, yi64), (3, yi64), (10, yi64), (11, yi64)], []⟩)]⟩ else if i = 1170018 then some ⟨⟨[], []⟩, [(.normal, ⟨[(0, (.vec yi32)), (1, yi64), (2, yi64), (3, yi64), (8, .bool), (9, .bool), (10, yi64), (11, yi64), (87, .bool)], []⟩)]⟩ else if i = 1150017 then some ⟨⟨[], []⟩, [(.ret, ⟨[(0, (.vec yi32))], []⟩), (.normal, ⟨[(0, (.vec yi32)), (1, yi64), (2, yi64), (3, yi64), (8, .bool), (9, .bool), (10, yi64), (11, yi64)], []⟩)]⟩ else if i = 1150016 then some ⟨⟨[], []⟩, [(.normal, ⟨[(0, (.vec yi32)), (1, yi64), (2, yi64), (3, yi64), (8, .bool), (9, .bool), (10, yi64), (11, yi64), (68, .bool)], []⟩)]⟩ else if i = 1110015 then some ⟨⟨[], []⟩, [(.normal, ⟨[(0, (.vec yi32)), (1, yi64), (2, yi64), (3, yi64), (8, .bool), (9, .bool), (10, yi64), (11, yi64), (12, yi64)], []⟩)]⟩ else if i = 1070010 then some ⟨⟨[], []⟩, [(.normal, ⟨[(0, (.vec yi32)), (1, yi64), (2, yi64), (3, yi64), (8, .bool), (9, .bool), (10, yi64)], []⟩)]⟩ else if i = 1050007 then some ⟨⟨[], []⟩, [(.ret, ⟨[(0, (.vec yi32))], []⟩), (.normal, ⟨[(0, (.vec yi32)), (1, yi64), (2, yi64), (3, yi64), (8, .bool), (9, .bool), (10, yi64)], []⟩)]⟩ else if i = 1030005 then some ⟨⟨[], []⟩, [(.ret, ⟨[(0, (.vec yi32))], []⟩), (.normal, ⟨[(0, (.vec yi32)), (1, yi64), (2, yi64), (3, yi64), (8, .bool), (9, .bool), (10, yi64)], []⟩)]⟩ else none
def i_pdq0_g (i_pdqR : List Int → Int → Int → Int → Option (List Int × Unit)) : List (Nat × Ctr) := [(122, i_less_c), (116, i_insSort_c), (117, i_heapSort_c), (118, i_breakPat_c), (119, i_choosePiv_c), (120, i_revRange_c), (121, i_partIns_c), (123, i_partEq_c), (124, i_partition_c), (105, (i_pdqR_cR i_pdqR))]
theorem i_pdq0_eq (i_pdqR : List Int → Int → Int → Int → Option (List Int × Unit)) (v : PDen (i_pdq0_c i_pdqR).ps) : semF tbl (gam (i_pdq0_g i_pdqR)) i_pdq0_h fuelN 134 (bodyOf Tryz.f105) (i_pdq0_c i_pdqR).ps (i_pdq0_c i_pdqR).rs [] [] v = (i_pdq0_c i_pdqR).g v := by kernel_rfl

/- 77: i_sortG -/
def i_sortG_c (i_pdqR : List Int → Int → Int → Int → Option (List Int × Unit)) : Ctr := ⟨[.mu (.vec yi32)], [], fun v => Srt.sortG i_pdqR v.1⟩
def i_sortG_h : Nat → Option LH := fun i => none
def i_sortG_g (i_pdqR : List Int → Int → Int → Int → Option (List Int × Unit)) : List (Nat × Ctr) := [(72, i_bitsLen_c), (105, (i_pdqR_cR i_pdqR))]
theorem i_sortG_eq (i_pdqR : List Int → Int → Int → Int → Option (List Int × Unit)) (v : PDen (i_sortG_c i_pdqR).ps) : semF tbl (gam (i_sortG_g i_pdqR)) i_sortG_h fuelN 11 (bodyOf Tryz.f77) (i_sortG_c i_pdqR).ps (i_sortG_c i_pdqR).rs [] [] v = (i_sortG_c i_pdqR).g v := by kernel_rfl

/- 95: s_insSort -/
def s_insSort_c : Ctr := ⟨[.mu (.vec .str), .ro yi64, .ro yi64], [], fun v => Srt.insSort s_less v.1 v.2.1 v.2.2.1⟩
def s_insSort_h : Nat → Option LH := fun i => if i = 1 then some ⟨⟨[(0, (.vec .str)), (1, yi64), (2, yi64), (6, yi64)], []⟩, [((.exit 0), ⟨[(0, (.vec .str))], []⟩)]⟩ else if i = 1030002 then some ⟨⟨[], []⟩, [(.normal, ⟨[(0, (.vec .str)), (1, yi64), (2, yi64), (6, yi64)], []⟩)]⟩ else if i = 4 then some ⟨⟨[(0, (.vec .str)), (1, yi64), (2, yi64), (6, yi64), (7, yi64)], []⟩, [((.exit 2), ⟨[(0, (.vec .str)), (1, yi64), (2, yi64), (6, yi64)], []⟩)]⟩ else if i = 1060005 then some ⟨⟨[], []⟩, [(.normal, ⟨[(0, (.vec .str)), (1, yi64), (2, yi64), (6, yi64), (7, yi64)], []⟩)]⟩ else if i = 1040006 then some ⟨⟨[], []⟩, [(.normal, ⟨[(0, (.vec .str)), (1, yi64), (2, yi64), (6, yi64), (7, yi64)], []⟩), ((.exit 2), ⟨[(0, (.vec .str)), (1, yi64), (2, yi64), (6, yi64)], []⟩)]⟩ else if i = 1010003 then some ⟨⟨[], []⟩, [(.normal, ⟨[(0, (.vec .str)), (1, yi64), (2, yi64), (6, yi64)], []⟩), ((.exit 0), ⟨[(0, (.vec .str))], []⟩)]⟩ else none
def s_insSort_g : List (Nat × Ctr) := [(101, s_less_c)]
theorem s_insSort_eq (v : PDen s_insSort_c.ps) : semF tbl (gam s_insSort_g) s_insSort_h fuelN 49 (bodyOf Tryz.f95) s_insSort_c.ps s_insSort_c.rs [] [] v = s_insSort_c.g v := by kernel_rfl

/- 112: s_siftDown -/
def s_siftDown_c : Ctr := ⟨[.mu (.vec .str), .ro yi64, .ro yi64, .ro yi64], [], fun v => Srt.siftDown s_less v.1 v.2.1 v.2.2.1 v.2.2.2.1⟩
def s_siftDown_h : Nat → Option LH := fun i => if i = 1 then some ⟨⟨[(0, (.vec .str)), (2, yi64), (3, yi64), (8, yi64)], []⟩, [((.exit 0), ⟨[(0, (.vec .str))], []⟩), (.ret, ⟨[(0, (.vec .str))], []⟩)]⟩ else if i = 1050006 then some ⟨⟨[], []⟩, [(.ret, ⟨[(0, (.vec .str))], []⟩), (.normal, ⟨[(0, (.vec .str)), (2, yi64), (3, yi64), (8, yi64), (9, yi64)], []⟩)]⟩ else if i = 1030005 then some ⟨⟨[], []⟩, [(.normal, ⟨[(0, (.vec .str)), (2, yi64), (3, yi64), (8, yi64), (9, yi64)], []⟩)]⟩ else if i = 1030004 then some ⟨⟨[], []⟩, [(.normal, ⟨[(0, (.vec .str)), (2, yi64), (3, yi64), (8, yi64), (9, yi64), (36, .bool)], []⟩)]⟩ else if i = 1020003 then some ⟨⟨[], []⟩, [((.exit 0), ⟨[(0, (.vec .str))], []⟩), (.normal, ⟨[(0, (.vec .str)), (2, yi64), (3, yi64), (8, yi64), (9, yi64)], []⟩)]⟩ else none
def s_siftDown_g : List (Nat × Ctr) := [(101, s_less_c)]
theorem s_siftDown_eq (v : PDen s_siftDown_c.ps) : semF tbl (gam s_siftDown_g) s_siftDown_h fuelN 76 (bodyOf Tryz.f112) s_siftDown_c.ps s_siftDown_c.rs [] [] v = s_siftDown_c.g v := by kernel_rfl

/- 96: s_heapSort -/
def s_heapSort_c : Ctr := ⟨[.mu (.vec .str), .ro yi64, .ro yi64], [], fun v => Srt.heapSort s_less v.1 v.2.1 v.2.2.1⟩
def s_heapSort_h : Nat → Option LH := fun i => if i = 8 then some ⟨⟨[(0, (.vec .str)), (6, yi64), (7, yi64), (10, yi64)], []⟩, [((.exit 2), ⟨[(0, (.vec .str))], []⟩)]⟩ else if i = 1100009 then some ⟨⟨[], []⟩, [(.normal, ⟨[(0, (.vec .str)), (6, yi64), (7, yi64), (10, yi64)], []⟩)]⟩ else if i = 1080010 then some ⟨⟨[], []⟩, [(.normal, ⟨[(0, (.vec .str)), (6, yi64), (7, yi64), (10, yi64)], []⟩), ((.exit 2), ⟨[(0, (.vec .str))], []⟩)]⟩ else if i = 1030007 then some ⟨⟨[], []⟩, [(.normal, ⟨[(0, (.vec .str)), (6, yi64), (7, yi64), (8, yi64)], []⟩)]⟩ else if i = 4 then some ⟨⟨[(0, (.vec .str)), (6, yi64), (7, yi64), (8, yi64), (9, yi64)], []⟩, [((.exit 0), ⟨[(0, (.vec .str)), (6, yi64), (7, yi64), (8, yi64)], []⟩)]⟩ else if i = 1060005 then some ⟨⟨[], []⟩, [(.normal, ⟨[(0, (.vec .str)), (6, yi64), (7, yi64), (8, yi64), (9, yi64)], []⟩)]⟩ else if i = 1040006 then some ⟨⟨[], []⟩, [(.normal, ⟨[(0, (.vec .str)), (6, yi64), (7, yi64), (8, yi64), (9, yi64)], []⟩), ((.exit 0), ⟨[(0, (.vec .str)), (6, yi64), (7, yi64), (8, yi64)], []⟩)]⟩ else none
def s_heapSort_g : List (Nat × Ctr) := [(112, s_siftDown_c)]
theorem s_heapSort_eq (v : PDen s_heapSort_c.ps) : semF tbl (gam s_heapSort_g) s_heapSort_h fuelN 56 (bodyOf Tryz.f96) s_heapSort_c.ps s_heapSort_c.rs [] [] v = s_heapSort_c.g v := by kernel_rfl

/- 97: s_breakPat -/
def s_breakPat_c : Ctr := ⟨[.mu (.vec .str), .ro yi64, .ro yi64], [], fun v => Srt.breakPat v.1 v.2.1 v.2.2.1⟩
def s_breakPat_h : Nat → Option LH := fun i => if i = 5 then some ⟨⟨[(0, (.vec .str)), (1, yi64), (6, yi64), (7, (.bx yu64)), (8, yu64), (9, yi64)], []⟩, [((.exit 0), ⟨[(0, (.vec .str))], []⟩)]⟩ else if i = 1070006 then some ⟨⟨[], []⟩, [(.normal, ⟨[(0, (.vec .str)), (1, yi64), (6, yi64), (7, (.bx yu64)), (8, yu64), (9, yi64)], []⟩)]⟩ else if i = 1080010 then some ⟨⟨[], []⟩, [(.normal, ⟨[(0, (.vec .str)), (1, yi64), (6, yi64), (7, (.bx yu64)), (8, yu64), (9, yi64), (10, yi64)], []⟩)]⟩ else if i = 1050007 then some ⟨⟨[], []⟩, [(.normal, ⟨[(0, (.vec .str)), (1, yi64), (6, yi64), (7, (.bx yu64)), (8, yu64), (9, yi64)], []⟩), ((.exit 0), ⟨[(0, (.vec .str))], []⟩)]⟩ else none
def s_breakPat_g : List (Nat × Ctr) := [(108, i_nextPow_c), (109, i_xorNext_c)]
theorem s_breakPat_eq (v : PDen s_breakPat_c.ps) : semF tbl (gam s_breakPat_g) s_breakPat_h fuelN 65 (bodyOf Tryz.f97) s_breakPat_c.ps s_breakPat_c.rs [] [] v = s_breakPat_c.g v := by kernel_rfl

/- 127: s_order2 -/
def s_order2_c : Ctr := ⟨[.ro (.slice .str), .ro yi64, .ro yi64, .mu (.bx yi64)], [.val yi64, .val yi64], fun v => Srt.order2 s_less v.1 v.2.1 v.2.2.1 v.2.2.2.1⟩
def s_order2_h : Nat → Option LH := fun i => if i = 1010004 then some ⟨⟨[], []⟩, [(.ret, ⟨[(3, (.bx yi64)), (8, yi64), (9, yi64)], []⟩), (.normal, ⟨[(1, yi64), (2, yi64), (3, (.bx yi64))], []⟩)]⟩ else none
def s_order2_g : List (Nat × Ctr) := [(101, s_less_c)]
theorem s_order2_eq (v : PDen s_order2_c.ps) : semF tbl (gam s_order2_g) s_order2_h fuelN 28 (bodyOf Tryz.f127) s_order2_c.ps s_order2_c.rs [8, 9] [] v = s_order2_c.g v := by kernel_rfl

/- 114: s_median -/
def s_median_c : Ctr := ⟨[.ro (.slice .str), .ro yi64, .ro yi64, .ro yi64, .mu (.bx yi64)], [.val yi64], fun v => Srt.median s_less v.1 v.2.1 v.2.2.1 v.2.2.2.1 v.2.2.2.2.1⟩
def s_median_h : Nat → Option LH := fun i => none
def s_median_g : List (Nat × Ctr) := [(127, s_order2_c)]
theorem s_median_eq (v : PDen s_median_c.ps) : semF tbl (gam s_median_g) s_median_h fuelN 36 (bodyOf Tryz.f114) s_median_c.ps s_median_c.rs [10] [] v = s_median_c.g v := by kernel_rfl

/- 113: s_medianAdj -/
def s_medianAdj_c : Ctr := ⟨[.ro (.slice .str), .ro yi64, .mu (.bx yi64)], [.val yi64], fun v => Srt.medianAdj s_less v.1 v.2.1 v.2.2.1⟩
def s_medianAdj_h : Nat → Option LH := fun i => none
def s_medianAdj_g : List (Nat × Ctr) := [(114, s_median_c)]
theorem s_medianAdj_eq (v : PDen s_medianAdj_c.ps) : semF tbl (gam s_medianAdj_g) s_medianAdj_h fuelN 15 (bodyOf Tryz.f113) s_medianAdj_c.ps s_medianAdj_c.rs [6] [] v = s_medianAdj_c.g v := by kernel_rfl

/- 98: s_choosePiv -/
def s_choosePiv_c : Ctr := ⟨[.ro (.slice .str), .ro yi64, .ro yi64], [.val yi64, .val yi64], fun v => Srt.choosePiv s_less v.1 v.2.1 v.2.2.1⟩
def s_choosePiv_h : Nat → Option LH := fun i => if i = 1060012 then some ⟨⟨[], []⟩, [(.normal, ⟨[(9, (.bx yi64)), (11, yi64)], []⟩)]⟩ else if i = 1070011 then some ⟨⟨[], []⟩, [(.normal, ⟨[(0, (.slice .str)), (9, (.bx yi64)), (10, yi64), (11, yi64), (12, yi64)], []⟩)]⟩ else none
def s_choosePiv_g : List (Nat × Ctr) := [(114, s_median_c), (113, s_medianAdj_c)]
theorem s_choosePiv_eq (v : PDen s_choosePiv_c.ps) : semF tbl (gam s_choosePiv_g) s_choosePiv_h fuelN 57 (bodyOf Tryz.f98) s_choosePiv_c.ps s_choosePiv_c.rs [6, 7] [] v = s_choosePiv_c.g v := by kernel_rfl

/- 99: s_revRange -/
def s_revRange_c : Ctr := ⟨[.mu (.vec .str), .ro yi64, .ro yi64], [], fun v => Srt.revRange v.1 v.2.1 v.2.2.1⟩
def s_revRange_h : Nat → Option LH := fun i => if i = 2 then some ⟨⟨[(0, (.vec .str)), (6, yi64), (7, yi64)], []⟩, [((.exit 0), ⟨[(0, (.vec .str))], []⟩)]⟩ else if i = 1020003 then some ⟨⟨[], []⟩, [(.normal, ⟨[(0, (.vec .str)), (6, yi64), (7, yi64)], []⟩), ((.exit 0), ⟨[(0, (.vec .str))], []⟩)]⟩ else none
def s_revRange_g : List (Nat × Ctr) := []
theorem s_revRange_eq (v : PDen s_revRange_c.ps) : semF tbl (gam s_revRange_g) s_revRange_h fuelN 32 (bodyOf Tryz.f99) s_revRange_c.ps s_revRange_c.rs [] [] v = s_revRange_c.g v := by kernel_rfl

/- 100: s_partIns -/
def s_partIns_c : Ctr := ⟨[.mu (.vec .str), .ro yi64, .ro yi64], [.val .bool], fun v => Srt.partIns s_less v.1 v.2.1 v.2.2.1⟩
def s_partIns_h : Nat → Option LH := fun i => if i = 3 then some ⟨⟨[(0, (.vec .str)), (1, yi64), (2, yi64), (7, yi64), (8, yi64)], []⟩, [(.ret, ⟨[(0, (.vec .str)), (6, .bool)], []⟩), ((.exit 0), ⟨[(0, (.vec .str))], []⟩)]⟩ else if i = 1050004 then some ⟨⟨[], []⟩, [(.ret, ⟨[(0, (.vec .str)), (6, .bool)], []⟩), (.normal, ⟨[(0, (.vec .str)), (1, yi64), (2, yi64), (7, yi64), (8, yi64)], []⟩)]⟩ else if i = 20 then some ⟨⟨[(0, (.vec .str)), (1, yi64), (2, yi64), (7, yi64), (8, yi64), (10, yi64)], []⟩, [((.exit 6), ⟨[(0, (.vec .str)), (1, yi64), (2, yi64), (7, yi64), (8, yi64)], []⟩)]⟩ else if i = 1220021 then some ⟨⟨[], []⟩, [((.exit 6), ⟨[(0, (.vec .str)), (1, yi64), (2, yi64), (7, yi64), (8, yi64)], []⟩), (.normal, ⟨[(0, (.vec .str)), (1, yi64), (2, yi64), (7, yi64), (8, yi64), (10, yi64)], []⟩)]⟩ else if i = 1220023 then some ⟨⟨[], []⟩, [((.exit 6), ⟨[(0, (.vec .str)), (1, yi64), (2, yi64), (7, yi64), (8, yi64)], []⟩), (.normal, ⟨[(0, (.vec .str)), (1, yi64), (2, yi64), (7, yi64), (8, yi64), (10, yi64)], []⟩)]⟩ else if i = 1200022 then some ⟨⟨[], []⟩, [(.normal, ⟨[(0, (.vec .str)), (1, yi64), (2, yi64), (7, yi64), (8, yi64), (10, yi64)], []⟩), ((.exit 6), ⟨[(0, (.vec .str)), (1, yi64), (2, yi64), (7, yi64), (8, yi64)], []⟩)]⟩ else if i = 1120018 then some ⟨⟨[], []⟩, [(.normal, ⟨[(0, (.vec .str)), (1, yi64), (2, yi64), (7, yi64), (8, yi64)], []⟩)]⟩ else if i = 14 then some ⟨⟨[(0, (.vec .str)), (1, yi64), (2, yi64), (7, yi64), (8, yi64), (9, yi64)], []⟩, [((.exit 4), ⟨[(0, (.vec .str)), (1, yi64), (2, yi64), (7, yi64), (8, yi64)], []⟩)]⟩ else if i = 1160015 then some ⟨⟨[], []⟩, [((.exit 4), ⟨[(0, (.vec .str)), (1, yi64), (2, yi64), (7, yi64), (8, yi64)], []⟩), (.normal, ⟨[(0, (.vec .str)), (1, yi64), (2, yi64), (7, yi64), (8, yi64), (9, yi64)], []⟩)]⟩ else if i = 1160017 then some ⟨⟨[], []⟩, [((.exit 4), ⟨[(0, (.vec .str)), (1, yi64), (2, yi64), (7, yi64), (8, yi64)], []⟩), (.normal, ⟨[(0, (.vec .str)), (1, yi64), (2, yi64), (7, yi64), (8, yi64), (9, yi64)], []⟩)]⟩ else if i = 1140016 then some ⟨⟨[], []⟩, [(.normal, ⟨[(0, (.vec .str)), (1, yi64), (2, yi64), (7, yi64), (8, yi64), (9, yi64)], []⟩), ((.exit 4), ⟨[(0, (.vec .str)), (1, yi64), (2, yi64), (7, yi64), (8, yi64)], []⟩)]⟩ else if i = 1090011 then some ⟨⟨[], []⟩, [(.ret, ⟨[(0, (.vec .str)), (6, .bool)], []⟩), (.normal, ⟨[(0, (.vec .str)), (1, yi64), (2, yi64), (7, yi64), (8, yi64)], []⟩)]⟩ else if i = 1070009 then some ⟨⟨[], []⟩, [(.ret, ⟨[(0, (.vec .str)), (6, .bool)], []⟩), (.normal, ⟨[(0, (.vec .str)), (1, yi64), (2, yi64), (7, yi64), (8, yi64)], []⟩)]⟩ else if i = 1050007 then some ⟨⟨[], []⟩, [(.normal, ⟨[(0, (.vec .str)), (1, yi64), (2, yi64), (7, yi64), (8, yi64)], []⟩)]⟩ else if i = 5 then some ⟨⟨[(0, (.vec .str)), (1, yi64), (2, yi64), (7, yi64), (8, yi64)], []⟩, [((.exit 2), ⟨[(0, (.vec .str)), (1, yi64), (2, yi64), (7, yi64), (8, yi64)], []⟩)]⟩ else if i = 1050006 then some ⟨⟨[], []⟩, [(.normal, ⟨[(0, (.vec .str)), (1, yi64), (2, yi64), (7, yi64), (8, yi64)], []⟩), ((.exit 2), ⟨[(0, (.vec .str)), (1, yi64), (2, yi64), (7, yi64), (8, yi64)], []⟩)]⟩ else if i = 1030005 then some ⟨⟨[], []⟩, [(.normal, ⟨[(0, (.vec .str)), (1, yi64), (2, yi64), (7, yi64), (8, yi64)], []⟩), ((.exit 0), ⟨[(0, (.vec .str))], []⟩)]⟩ else none
def s_partIns_g : List (Nat × Ctr) := [(101, s_less_c)]
theorem s_partIns_eq (v : PDen s_partIns_c.ps) : semF tbl (gam s_partIns_g) s_partIns_h fuelN 133 (bodyOf Tryz.f100) s_partIns_c.ps s_partIns_c.rs [6] [] v = s_partIns_c.g v := by kernel_rfl

/- 102: s_partEq -/
def s_partEq_c : Ctr := ⟨[.mu (.vec .str), .ro yi64, .ro yi64, .ro yi64], [.val yi64], fun v => Srt.partEq s_less v.1 v.2.1 v.2.2.1 v.2.2.2.1⟩
def s_partEq_h : Nat → Option LH := fun i => if i = 100003 then some ⟨⟨[(0, (.vec .str)), (1, yi64), (9, yi64), (10, yi64)], []⟩, [((.exit 0), ⟨[(0, (.vec .str)), (9, yi64)], []⟩)]⟩ else if i = 1070008 then some ⟨⟨[], []⟩, [((.exit 0), ⟨[(0, (.vec .str)), (9, yi64)], []⟩), (.normal, ⟨[(0, (.vec .str)), (1, yi64), (9, yi64), (10, yi64)], []⟩)]⟩ else if i = 1050007 then some ⟨⟨[], []⟩, [(.normal, ⟨[(0, (.vec .str)), (1, yi64), (9, yi64), (10, yi64)], []⟩)]⟩ else if i = 5 then some ⟨⟨[(0, (.vec .str)), (1, yi64), (9, yi64), (10, yi64)], []⟩, [((.exit 4), ⟨[(0, (.vec .str)), (1, yi64), (9, yi64), (10, yi64)], []⟩)]⟩ else if i = 1050006 then some ⟨⟨[], []⟩, [(.normal, ⟨[(0, (.vec .str)), (1, yi64), (9, yi64), (10, yi64)], []⟩), ((.exit 4), ⟨[(0, (.vec .str)), (1, yi64), (9, yi64), (10, yi64)], []⟩)]⟩ else if i = 1030005 then some ⟨⟨[], []⟩, [(.normal, ⟨[(0, (.vec .str)), (1, yi64), (9, yi64), (10, yi64)], []⟩)]⟩ else if i = 3 then some ⟨⟨[(0, (.vec .str)), (1, yi64), (9, yi64), (10, yi64)], []⟩, [((.exit 2), ⟨[(0, (.vec .str)), (1, yi64), (9, yi64), (10, yi64)], []⟩)]⟩ else if i = 1030004 then some ⟨⟨[], []⟩, [(.normal, ⟨[(0, (.vec .str)), (1, yi64), (9, yi64), (10, yi64)], []⟩), ((.exit 2), ⟨[(0, (.vec .str)), (1, yi64), (9, yi64), (10, yi64)], []⟩)]⟩ else none
def s_partEq_g : List (Nat × Ctr) := [(101, s_less_c)]
theorem s_partEq_eq (v : PDen s_partEq_c.ps) : semF tbl (gam s_partEq_g) s_partEq_h fuelN 84 (bodyOf Tryz.f102) s_partEq_c.ps s_partEq_c.rs [8] [] v = s_partEq_c.g v := by kernel_rfl

/- 103: s_partition -/
def s_partition_c : Ctr := ⟨[.mu (.vec .str), .ro yi64, .ro yi64, .ro yi64], [.val yi64, .val .bool], fun v => Srt.partition s_less v.1 v.2.1 v.2.2.1 v.2.2.2.1⟩
def s_partition_h : Nat → Option LH := fun i => if i = 1130021 then some ⟨⟨[], []⟩, [(.normal, ⟨[(0, (.vec .str)), (1, yi64), (11, yi64)], []⟩)]⟩ else if i = 100013 then some ⟨⟨[(0, (.vec .str)), (1, yi64), (10, yi64), (11, yi64)], []⟩, [((.exit 4), ⟨[(0, (.vec .str)), (1, yi64), (11, yi64)], []⟩)]⟩ else if i = 1170018 then some ⟨⟨[], []⟩, [((.exit 4), ⟨[(0, (.vec .str)), (1, yi64), (11, yi64)], []⟩), (.normal, ⟨[(0, (.vec .str)), (1, yi64), (10, yi64), (11, yi64)], []⟩)]⟩ else if i = 1150017 then some ⟨⟨[], []⟩, [(.normal, ⟨[(0, (.vec .str)), (1, yi64), (10, yi64), (11, yi64)], []⟩)]⟩ else if i = 15 then some ⟨⟨[(0, (.vec .str)), (1, yi64), (10, yi64), (11, yi64)], []⟩, [((.exit 8), ⟨[(0, (.vec .str)), (1, yi64), (10, yi64), (11, yi64)], []⟩)]⟩ else if i = 1150016 then some ⟨⟨[], []⟩, [(.normal, ⟨[(0, (.vec .str)), (1, yi64), (10, yi64), (11, yi64)], []⟩), ((.exit 8), ⟨[(0, (.vec .str)), (1, yi64), (10, yi64), (11, yi64)], []⟩)]⟩ else if i = 1130015 then some ⟨⟨[], []⟩, [(.normal, ⟨[(0, (.vec .str)), (1, yi64), (10, yi64), (11, yi64)], []⟩)]⟩ else if i = 13 then some ⟨⟨[(0, (.vec .str)), (1, yi64), (10, yi64), (11, yi64)], []⟩, [((.exit 6), ⟨[(0, (.vec .str)), (1, yi64), (10, yi64), (11, yi64)], []⟩)]⟩ else if i = 1130014 then some ⟨⟨[], []⟩, [(.normal, ⟨[(0, (.vec .str)), (1, yi64), (10, yi64), (11, yi64)], []⟩), ((.exit 6), ⟨[(0, (.vec .str)), (1, yi64), (10, yi64), (11, yi64)], []⟩)]⟩ else if i = 1070010 then some ⟨⟨[], []⟩, [(.ret, ⟨[(0, (.vec .str)), (8, yi64), (9, .bool)], []⟩), (.normal, ⟨[(0, (.vec .str)), (1, yi64), (10, yi64), (11, yi64)], []⟩)]⟩ else if i = 1050007 then some ⟨⟨[], []⟩, [(.normal, ⟨[(0, (.vec .str)), (1, yi64), (10, yi64), (11, yi64)], []⟩)]⟩ else if i = 5 then some ⟨⟨[(0, (.vec .str)), (1, yi64), (10, yi64), (11, yi64)], []⟩, [((.exit 2), ⟨[(0, (.vec .str)), (1, yi64), (10, yi64), (11, yi64)], []⟩)]⟩ else if i = 1050006 then some ⟨⟨[], []⟩, [(.normal, ⟨[(0, (.vec .str)), (1, yi64), (10, yi64), (11, yi64)], []⟩), ((.exit 2), ⟨[(0, (.vec .str)), (1, yi64), (10, yi64), (11, yi64)], []⟩)]⟩ else if i = 1030005 then some ⟨⟨[], []⟩, [(.normal, ⟨[(0, (.vec .str)), (1, yi64), (10, yi64), (11, yi64)], []⟩)]⟩ else if i = 3 then some ⟨⟨[(0, (.vec .str)), (1, yi64), (10, yi64), (11, yi64)], []⟩, [((.exit 0), ⟨[(0, (.vec .str)), (1, yi64), (10, yi64), (11, yi64)], []⟩)]⟩ else if i = 1030004 then some ⟨⟨[], []⟩, [(.normal, ⟨[(0, (.vec .str)), (1, yi64), (10, yi64), (11, yi64)], []⟩), ((.exit 0), ⟨[(0, (.vec .str)), (1, yi64), (10, yi64), (11, yi64)], []⟩)]⟩ else none
def s_partition_g : List (Nat × Ctr) := [(101, s_less_c)]
theorem s_partition_eq (v : PDen s_partition_c.ps) : semF tbl (gam s_partition_g) s_partition_h fuelN 168 (bodyOf Tryz.f103) s_partition_c.ps s_partition_c.rs [8, 9] [] v = s_partition_c.g v := by kernel_rfl

/- 74: s_pdq0 -/
def s_pdq0_c (s_pdqR : List (List UInt8) → Int → Int → Int → Option (List (List UInt8) × Unit)) : Ctr := ⟨[.mu (.vec .str), .ro yi64, .ro yi64, .ro yi64], [], fun v => Srt.pdq0 s_less s_pdqR v.1 v.2.1 v.2.2.1 v.2.2.2.1⟩
def s_pdq0_h : Nat → Option LH := fun i => if i = 2 then some ⟨⟨[(0, (.vec .str)), (1, yi64), (2, yi64), (3, yi64), (8, .bool), (9, .bool)], []⟩, [(.ret, ⟨[(0, (.vec .str))], []⟩)]⟩ else if i = 1170020 then some ⟨⟨[], []⟩, [((.exit 1), ⟨[(0, (.vec .str)), (1, yi64), (2, yi64), (3, yi64), (8, .bool), (9, .bool)], []⟩), (.normal, ⟨[(0, (.vec .str)), (1, yi64), (2, yi64), (3, yi64), (10, yi64), (11, yi64)], []⟩)]⟩ else if i = 1170018 then some ⟨⟨[], []⟩, [(.normal, ⟨[(0, (.vec .str)), (1, yi64), (2, yi64), (3, yi64), (8, .bool), (9, .bool), (10, yi64), (11, yi64), (87, .bool)], []⟩)]⟩ else if i = 1150017 then some ⟨⟨[], []⟩, [(.ret, ⟨[(0, (.vec .str))], []⟩), (.normal, ⟨[(0, (.vec .str)), (1, yi64), (2, yi64), (3, yi64), (8, .bool), (9, .bool), (10, yi64), (11, yi64)], []⟩)]⟩ else if i = 1150016 then some ⟨⟨[], []⟩, [(.normal, ⟨[(0, (.vec .str)), (1, yi64), (2, yi64), (3, yi64), (8, .bool), (9, .bool), (10, yi64), (11, yi64), (68, .bool)], []⟩)]⟩ else if i = 1110015 then some ⟨⟨[], []⟩, [(.normal, ⟨[(0, (.vec .str)), (1, yi64), (2, yi64), (3, yi64), (8, .bool), (9, .bool), (10, yi64), (11, yi64), (12, yi64)], []⟩)]⟩ else if i = 1070010 then some ⟨⟨[], []⟩, [(.normal, ⟨[(0, (.vec .str)), (1, yi64), (2, yi64), (3, yi64), (8, .bool), (9, .bool), (10, yi64)], []⟩)]⟩ else if i = 1050007 then some ⟨⟨[], []⟩, [(.ret, ⟨[(0, (.vec .str))], []⟩), (.normal, ⟨[(0, (.vec .str)), (1, yi64), (2, yi64), (3, yi64), (8, .bool), (9, .bool), (10, yi64)], []⟩)]⟩ else if i = 1030005 then some ⟨⟨[], []⟩, [(.ret, ⟨[(0, (.vec .str))], []⟩), (.normal, ⟨[(0, (.vec .str)), (1, yi64), (2, yi64), (3, yi64), (8, .bool), (9, .bool), (10, yi64)], []⟩)]⟩ else none
def s_pdq0_g (s_pdqR : List (List UInt8) → Int → Int → Int → Option (List (List UInt8) × Unit)) : List (Nat × Ctr) := [(101, s_less_c), (95, s_insSort_c), (96, s_heapSort_c), (97, s_breakPat_c), (98, s_choosePiv_c), (99, s_revRange_c), (100, s_partIns_c), (102, s_partEq_c), (103, s_partition_c), (74, (s_pdqR_cR s_pdqR))]
theorem s_pdq0_eq (s_pdqR : List (List UInt8) → Int → Int → Int → Option (List (List UInt8) × Unit)) (v : PDen (s_pdq0_c s_pdqR).ps) : semF tbl (gam (s_pdq0_g s_pdqR)) s_pdq0_h fuelN 134 (bodyOf Tryz.f74) (s_pdq0_c s_pdqR).ps (s_pdq0_c s_pdqR).rs [] [] v = (s_pdq0_c s_pdqR).g v := by kernel_rfl

/- 54: s_sortG -/
def s_sortG_c (s_pdqR : List (List UInt8) → Int → Int → Int → Option (List (List UInt8) × Unit)) : Ctr := ⟨[.mu (.vec .str)], [], fun v => Srt.sortG s_pdqR v.1⟩
def s_sortG_h : Nat → Option LH := fun i => none
def s_sortG_g (s_pdqR : List (List UInt8) → Int → Int → Int → Option (List (List UInt8) × Unit)) : List (Nat × Ctr) := [(72, i_bitsLen_c), (74, (s_pdqR_cR s_pdqR))]
theorem s_sortG_eq (s_pdqR : List (List UInt8) → Int → Int → Int → Option (List (List UInt8) × Unit)) (v : PDen (s_sortG_c s_pdqR).ps) : semF tbl (gam (s_sortG_g s_pdqR)) s_sortG_h fuelN 11 (bodyOf Tryz.f54) (s_sortG_c s_pdqR).ps (s_sortG_c s_pdqR).rs [] [] v = (s_sortG_c s_pdqR).g v := by kernel_rfl

/- 85: c_insSort -/
def c_insSort_c : Ctr := ⟨[.mu (.vec y0), .ro yi64, .ro yi64, .ro (.clo 52 .unit)], [], fun v => Srt.insSort c_less v.1 v.2.1 v.2.2.1⟩
def c_insSort_h : Nat → Option LH := fun i => if i = 1 then some ⟨⟨[(0, (.vec y0)), (1, yi64), (2, yi64), (8, yi64)], [(3, 52)]⟩, [((.exit 0), ⟨[(0, (.vec y0))], []⟩)]⟩ else if i = 1030002 then some ⟨⟨[], []⟩, [(.normal, ⟨[(0, (.vec y0)), (1, yi64), (2, yi64), (8, yi64)], [(3, 52)]⟩)]⟩ else if i = 4 then some ⟨⟨[(0, (.vec y0)), (1, yi64), (2, yi64), (8, yi64), (9, yi64)], [(3, 52)]⟩, [((.exit 2), ⟨[(0, (.vec y0)), (1, yi64), (2, yi64), (8, yi64)], [(3, 52)]⟩)]⟩ else if i = 1060005 then some ⟨⟨[], []⟩, [(.normal, ⟨[(0, (.vec y0)), (1, yi64), (2, yi64), (8, yi64), (9, yi64)], [(3, 52)]⟩)]⟩ else if i = 1040006 then some ⟨⟨[], []⟩, [(.normal, ⟨[(0, (.vec y0)), (1, yi64), (2, yi64), (8, yi64), (9, yi64)], [(3, 52)]⟩), ((.exit 2), ⟨[(0, (.vec y0)), (1, yi64), (2, yi64), (8, yi64)], [(3, 52)]⟩)]⟩ else if i = 1010003 then some ⟨⟨[], []⟩, [(.normal, ⟨[(0, (.vec y0)), (1, yi64), (2, yi64), (8, yi64)], [(3, 52)]⟩), ((.exit 0), ⟨[(0, (.vec y0))], []⟩)]⟩ else none
def c_insSort_g : List (Nat × Ctr) := [(52, c_cmp_c)]
theorem c_insSort_eq (v : PDen c_insSort_c.ps) : semF tbl (gam c_insSort_g) c_insSort_h fuelN 53 (bodyOf Tryz.f85) c_insSort_c.ps c_insSort_c.rs [] [] v = c_insSort_c.g v := by kernel_rfl

/- 107: c_siftDown -/
def c_siftDown_c : Ctr := ⟨[.mu (.vec y0), .ro yi64, .ro yi64, .ro yi64, .ro (.clo 52 .unit)], [], fun v => Srt.siftDown c_less v.1 v.2.1 v.2.2.1 v.2.2.2.1⟩
def c_siftDown_h : Nat → Option LH := fun i => if i = 1 then some ⟨⟨[(0, (.vec y0)), (2, yi64), (3, yi64), (10, yi64)], [(4, 52)]⟩, [((.exit 0), ⟨[(0, (.vec y0))], []⟩), (.ret, ⟨[(0, (.vec y0))], []⟩)]⟩ else if i = 1050006 then some ⟨⟨[], []⟩, [(.ret, ⟨[(0, (.vec y0))], []⟩), (.normal, ⟨[(0, (.vec y0)), (2, yi64), (3, yi64), (10, yi64), (11, yi64)], [(4, 52)]⟩)]⟩ else if i = 1030005 then some ⟨⟨[], []⟩, [(.normal, ⟨[(0, (.vec y0)), (2, yi64), (3, yi64), (10, yi64), (11, yi64)], [(4, 52)]⟩)]⟩ else if i = 1030004 then some ⟨⟨[], []⟩, [(.normal, ⟨[(0, (.vec y0)), (2, yi64), (3, yi64), (10, yi64), (11, yi64), (40, .bool)], [(4, 52)]⟩)]⟩ else if i = 1020003 then some ⟨⟨[], []⟩, [((.exit 0), ⟨[(0, (.vec y0))], []⟩), (.normal, ⟨[(0, (.vec y0)), (2, yi64), (3, yi64), (10, yi64), (11, yi64)], [(4, 52)]⟩)]⟩ else none
def c_siftDown_g : List (Nat × Ctr) := [(52, c_cmp_c)]
theorem c_siftDown_eq (v : PDen c_siftDown_c.ps) : semF tbl (gam c_siftDown_g) c_siftDown_h fuelN 82 (bodyOf Tryz.f107) c_siftDown_c.ps c_siftDown_c.rs [] [] v = c_siftDown_c.g v := by kernel_rfl

/- 86: c_heapSort -/
def c_heapSort_c : Ctr := ⟨[.mu (.vec y0), .ro yi64, .ro yi64, .ro (.clo 52 .unit)], [], fun v => Srt.heapSort c_less v.1 v.2.1 v.2.2.1⟩
def c_heapSort_h : Nat → Option LH := fun i => if i = 8 then some ⟨⟨[(0, (.vec y0)), (8, yi64), (9, yi64), (12, yi64)], [(3, 52)]⟩, [((.exit 2), ⟨[(0, (.vec y0))], []⟩)]⟩ else if i = 1100009 then some ⟨⟨[], []⟩, [(.normal, ⟨[(0, (.vec y0)), (8, yi64), (9, yi64), (12, yi64)], [(3, 52)]⟩)]⟩ else if i = 1080010 then some ⟨⟨[], []⟩, [(.normal, ⟨[(0, (.vec y0)), (8, yi64), (9, yi64), (12, yi64)], [(3, 52)]⟩), ((.exit 2), ⟨[(0, (.vec y0))], []⟩)]⟩ else if i = 1030007 then some ⟨⟨[], []⟩, [(.normal, ⟨[(0, (.vec y0)), (8, yi64), (9, yi64), (10, yi64)], [(3, 52)]⟩)]⟩ else if i = 4 then some ⟨⟨[(0, (.vec y0)), (8, yi64), (9, yi64), (10, yi64), (11, yi64)], [(3, 52)]⟩, [((.exit 0), ⟨[(0, (.vec y0)), (8, yi64), (9, yi64), (10, yi64)], [(3, 52)]⟩)]⟩ else if i = 1060005 then some ⟨⟨[], []⟩, [(.normal, ⟨[(0, (.vec y0)), (8, yi64), (9, yi64), (10, yi64), (11, yi64)], [(3, 52)]⟩)]⟩ else if i = 1040006 then some ⟨⟨[], []⟩, [(.normal, ⟨[(0, (.vec y0)), (8, yi64), (9, yi64), (10, yi64), (11, yi64)], [(3, 52)]⟩), ((.exit 0), ⟨[(0, (.vec y0)), (8, yi64), (9, yi64), (10, yi64)], [(3, 52)]⟩)]⟩ else none
def c_heapSort_g : List (Nat × Ctr) := [(107, c_siftDown_c)]
theorem c_heapSort_eq (v : PDen c_heapSort_c.ps) : semF tbl (gam c_heapSort_g) c_heapSort_h fuelN 60 (bodyOf Tryz.f86) c_heapSort_c.ps c_heapSort_c.rs [] [] v = c_heapSort_c.g v := by kernel_rfl

/- 87: c_breakPat -/
def c_breakPat_c : Ctr := ⟨[.mu (.vec y0), .ro yi64, .ro yi64, .ro (.clo 52 .unit)], [], fun v => Srt.breakPat v.1 v.2.1 v.2.2.1⟩
def c_breakPat_h : Nat → Option LH := fun i => if i = 5 then some ⟨⟨[(0, (.vec y0)), (1, yi64), (8, yi64), (9, (.bx yu64)), (10, yu64), (11, yi64)], []⟩, [((.exit 0), ⟨[(0, (.vec y0))], []⟩)]⟩ else if i = 1070006 then some ⟨⟨[], []⟩, [(.normal, ⟨[(0, (.vec y0)), (1, yi64), (8, yi64), (9, (.bx yu64)), (10, yu64), (11, yi64)], []⟩)]⟩ else if i = 1080010 then some ⟨⟨[], []⟩, [(.normal, ⟨[(0, (.vec y0)), (1, yi64), (8, yi64), (9, (.bx yu64)), (10, yu64), (11, yi64), (12, yi64)], []⟩)]⟩ else if i = 1050007 then some ⟨⟨[], []⟩, [(.normal, ⟨[(0, (.vec y0)), (1, yi64), (8, yi64), (9, (.bx yu64)), (10, yu64), (11, yi64)], []⟩), ((.exit 0), ⟨[(0, (.vec y0))], []⟩)]⟩ else none
def c_breakPat_g : List (Nat × Ctr) := [(108, i_nextPow_c), (109, i_xorNext_c)]
theorem c_breakPat_eq (v : PDen c_breakPat_c.ps) : semF tbl (gam c_breakPat_g) c_breakPat_h fuelN 67 (bodyOf Tryz.f87) c_breakPat_c.ps c_breakPat_c.rs [] [] v = c_breakPat_c.g v := by kernel_rfl

/- 126: c_order2 -/
def c_order2_c : Ctr := ⟨[.ro (.slice y0), .ro yi64, .ro yi64, .mu (.bx yi64), .ro (.clo 52 .unit)], [.val yi64, .val yi64], fun v => Srt.order2 c_less v.1 v.2.1 v.2.2.1 v.2.2.2.1⟩
def c_order2_h : Nat → Option LH := fun i => if i = 1010004 then some ⟨⟨[], []⟩, [(.ret, ⟨[(3, (.bx yi64)), (10, yi64), (11, yi64)], []⟩), (.normal, ⟨[(1, yi64), (2, yi64), (3, (.bx yi64))], []⟩)]⟩ else none
def c_order2_g : List (Nat × Ctr) := [(52, c_cmp_c)]
theorem c_order2_eq (v : PDen c_order2_c.ps) : semF tbl (gam c_order2_g) c_order2_h fuelN 32 (bodyOf Tryz.f126) c_order2_c.ps c_order2_c.rs [10, 11] [] v = c_order2_c.g v := by kernel_rfl

/- 111: c_median -/
def c_median_c : Ctr := ⟨[.ro (.slice y0), .ro yi64, .ro yi64, .ro yi64, .mu (.bx yi64), .ro (.clo 52 .unit)], [.val yi64], fun v => Srt.median c_less v.1 v.2.1 v.2.2.1 v.2.2.2.1 v.2.2.2.2.1⟩
def c_median_h : Nat → Option LH := fun i => none
def c_median_g : List (Nat × Ctr) := [(126, c_order2_c)]
theorem c_median_eq (v : PDen c_median_c.ps) : semF tbl (gam c_median_g) c_median_h fuelN 41 (bodyOf Tryz.f111) c_median_c.ps c_median_c.rs [12] [] v = c_median_c.g v := by kernel_rfl

/- 110: c_medianAdj -/
def c_medianAdj_c : Ctr := ⟨[.ro (.slice y0), .ro yi64, .mu (.bx yi64), .ro (.clo 52 .unit)], [.val yi64], fun v => Srt.medianAdj c_less v.1 v.2.1 v.2.2.1⟩
def c_medianAdj_h : Nat → Option LH := fun i => none
def c_medianAdj_g : List (Nat × Ctr) := [(111, c_median_c)]
theorem c_medianAdj_eq (v : PDen c_medianAdj_c.ps) : semF tbl (gam c_medianAdj_g) c_medianAdj_h fuelN 18 (bodyOf Tryz.f110) c_medianAdj_c.ps c_medianAdj_c.rs [8] [] v = c_medianAdj_c.g v := by kernel_rfl

/- 88: c_choosePiv -/
def c_choosePiv_c : Ctr := ⟨[.ro (.slice y0), .ro yi64, .ro yi64, .ro (.clo 52 .unit)], [.val yi64, .val yi64], fun v => Srt.choosePiv c_less v.1 v.2.1 v.2.2.1⟩
def c_choosePiv_h : Nat → Option LH := fun i => if i = 1060012 then some ⟨⟨[], []⟩, [(.normal, ⟨[(11, (.bx yi64)), (13, yi64)], []⟩)]⟩ else if i = 1070011 then some ⟨⟨[], []⟩, [(.normal, ⟨[(0, (.slice y0)), (11, (.bx yi64)), (12, yi64), (13, yi64), (14, yi64)], [(3, 52)]⟩)]⟩ else none
def c_choosePiv_g : List (Nat × Ctr) := [(111, c_median_c), (110, c_medianAdj_c)]
theorem c_choosePiv_eq (v : PDen c_choosePiv_c.ps) : semF tbl (gam c_choosePiv_g) c_choosePiv_h fuelN 63 (bodyOf Tryz.f88) c_choosePiv_c.ps c_choosePiv_c.rs [8, 9] [] v = c_choosePiv_c.g v := by kernel_rfl

/- 89: c_revRange -/
def c_revRange_c : Ctr := ⟨[.mu (.vec y0), .ro yi64, .ro yi64, .ro (.clo 52 .unit)], [], fun v => Srt.revRange v.1 v.2.1 v.2.2.1⟩
def c_revRange_h : Nat → Option LH := fun i => if i = 2 then some ⟨⟨[(0, (.vec y0)), (8, yi64), (9, yi64)], []⟩, [((.exit 0), ⟨[(0, (.vec y0))], []⟩)]⟩ else if i = 1020003 then some ⟨⟨[], []⟩, [(.normal, ⟨[(0, (.vec y0)), (8, yi64), (9, yi64)], []⟩), ((.exit 0), ⟨[(0, (.vec y0))], []⟩)]⟩ else none
def c_revRange_g : List (Nat × Ctr) := []
theorem c_revRange_eq (v : PDen c_revRange_c.ps) : semF tbl (gam c_revRange_g) c_revRange_h fuelN 34 (bodyOf Tryz.f89) c_revRange_c.ps c_revRange_c.rs [] [] v = c_revRange_c.g v := by kernel_rfl

/- 90: c_partIns -/
def c_partIns_c : Ctr := ⟨[.mu (.vec y0), .ro yi64, .ro yi64, .ro (.clo 52 .unit)], [.val .bool], fun v => Srt.partIns c_less v.1 v.2.1 v.2.2.1⟩
def c_partIns_h : Nat → Option LH := fun i => if i = 3 then some ⟨⟨[(0, (.vec y0)), (1, yi64), (2, yi64), (9, yi64), (10, yi64)], [(3, 52)]⟩, [(.ret, ⟨[(0, (.vec y0)), (8, .bool)], []⟩), ((.exit 0), ⟨[(0, (.vec y0))], []⟩)]⟩ else if i = 1050004 then some ⟨⟨[], []⟩, [(.ret, ⟨[(0, (.vec y0)), (8, .bool)], []⟩), (.normal, ⟨[(0, (.vec y0)), (1, yi64), (2, yi64), (9, yi64), (10, yi64)], [(3, 52)]⟩)]⟩ else if i = 20 then some ⟨⟨[(0, (.vec y0)), (1, yi64), (2, yi64), (9, yi64), (10, yi64), (12, yi64)], [(3, 52)]⟩, [((.exit 6), ⟨[(0, (.vec y0)), (1, yi64), (2, yi64), (9, yi64), (10, yi64)], [(3, 52)]⟩)]⟩ else if i = 1220021 then some ⟨⟨[], []⟩, [((.exit 6), ⟨[(0, (.vec y0)), (1, yi64), (2, yi64), (9, yi64), (10, yi64)], [(3, 52)]⟩), (.normal, ⟨[(0, (.vec y0)), (1, yi64), (2, yi64), (9, yi64), (10, yi64), (12, yi64)], [(3, 52)]⟩)]⟩ else if i = 1220023 then some ⟨⟨[], []⟩, [((.exit 6), ⟨[(0, (.vec y0)), (1, yi64), (2, yi64), (9, yi64), (10, yi64)], [(3, 52)]⟩), (.normal, ⟨[(0, (.vec y0)), (1, yi64), (2, yi64), (9, yi64), (10, yi64), (12, yi64)], [(3, 52)]⟩)]⟩ else if i = 1200022 then some ⟨⟨[], []⟩, [(.normal, ⟨[(0, (.vec y0)), (1, yi64), (2, yi64), (9, yi64), (10, yi64), (12, yi64)], [(3, 52)]⟩), ((.exit 6), ⟨[(0, (.vec y0)), (1, yi64), (2, yi64), (9, yi64), (10, yi64)], [(3, 52)]⟩)]⟩ else if i = 1120018 then some ⟨⟨[], []⟩, [(.normal, ⟨[(0, (.vec y0)), (1, yi64), (2, yi64), (9, yi64), (10, yi64)], [(3, 52)]⟩)]⟩ else if i = 14 then some ⟨⟨[(0, (.vec y0)), (1, yi64), (2, yi64), (9, yi64), (10, yi64), (11, yi64)], [(3, 52)]⟩, [((.exit 4), ⟨[(0, (.vec y0)), (1, yi64), (2, yi64), (9, yi64), (10, yi64)], [(3, 52)]⟩)]⟩ else if i = 1160015 then some ⟨⟨[], []⟩, [((.exit 4), ⟨[(0, (.vec y0)), (1, yi64), (2, yi64), (9, yi64), (10, yi64)], [(3, 52)]⟩), (.normal, ⟨[(0, (.vec y0)), (1, yi64), (2, yi64), (9, yi64), (10, yi64), (11, yi64)], [(3, 52)]⟩)]⟩ else if i = 1160017 then some ⟨⟨[], []⟩, [((.exit 4), ⟨[(0, (.vec y0)), (1, yi64), (2, yi64), (9, yi64), (10, yi64)], [(3, 52)]⟩), (.normal, ⟨[(0, (.vec y0)), (1, yi64), (2, yi64), (9, yi64), (10, yi64), (11, yi64)], [(3, 52)]⟩)]⟩ else if i = 1140016 then some ⟨⟨[], []⟩, [(.normal, ⟨[(0, (.vec y0)), (1, yi64), (2, yi64), (9, yi64), (10, yi64), (11, yi64)], [(3, 52)]⟩), ((.exit 4), ⟨[(0, (.vec y0)), (1, yi64), (2, yi64), (9, yi64), (10, yi64)], [(3, 52)]⟩)]⟩ else if i = 1090011 then some ⟨⟨[], []⟩, [(.ret, ⟨[(0, (.vec y0)), (8, .bool)], []⟩), (.normal, ⟨[(0, (.vec y0)), (1, yi64), (2, yi64), (9, yi64), (10, yi64)], [(3, 52)]⟩)]⟩ else if i = 1070009 then some ⟨⟨[], []⟩, [(.ret, ⟨[(0, (.vec y0)), (8, .bool)], []⟩), (.normal, ⟨[(0, (.vec y0)), (1, yi64), (2, yi64), (9, yi64), (10, yi64)], [(3, 52)]⟩)]⟩ else if i = 1050007 then some ⟨⟨[], []⟩, [(.normal, ⟨[(0, (.vec y0)), (1, yi64), (2, yi64), (9, yi64), (10, yi64)], [(3, 52)]⟩)]⟩ else if i = 5 then some ⟨⟨[(0, (.vec y0)), (1, yi64), (2, yi64), (9, yi64), (10, yi64)], [(3, 52)]⟩, [((.exit 2), ⟨[(0, (.vec y0)), (1, yi64), (2, yi64), (9, yi64), (10, yi64)], [(3, 52)]⟩)]⟩ else if i = 1050006 then some ⟨⟨[], []⟩, [(.normal, ⟨[(0, (.vec y0)), (1, yi64), (2, yi64), (9, yi64), (10, yi64)], [(3, 52)]⟩), ((.exit 2), ⟨[(0, (.vec y0)), (1, yi64), (2, yi64), (9, yi64), (10, yi64)], [(3, 52)]⟩)]⟩ else if i = 1030005 then some ⟨⟨[], []⟩, [(.normal, ⟨[(0, (.vec y0)), (1, yi64), (2, yi64), (9, yi64), (10, yi64)], [(3, 52)]⟩), ((.exit 0), ⟨[(0, (.vec y0))], []⟩)]⟩ else none
def c_partIns_g : List (Nat × Ctr) := [(52, c_cmp_c)]
theorem c_partIns_eq (v : PDen c_partIns_c.ps) : semF tbl (gam c_partIns_g) c_partIns_h fuelN 141 (bodyOf Tryz.f90) c_partIns_c.ps c_partIns_c.rs [8] [] v = c_partIns_c.g v := by kernel_rfl

/- 91: c_partEq -/
def c_partEq_c : Ctr := ⟨[.mu (.vec y0), .ro yi64, .ro yi64, .ro yi64, .ro (.clo 52 .unit)], [.val yi64], fun v => Srt.partEq c_less v.1 v.2.1 v.2.2.1 v.2.2.2.1⟩
def c_partEq_h : Nat → Option LH := fun i => if i = 100003 then some ⟨⟨[(0, (.vec y0)), (1, yi64), (11, yi64), (12, yi64)], [(4, 52)]⟩, [((.exit 0), ⟨[(0, (.vec y0)), (11, yi64)], []⟩)]⟩ else if i = 1070008 then some ⟨⟨[], []⟩, [((.exit 0), ⟨[(0, (.vec y0)), (11, yi64)], []⟩), (.normal, ⟨[(0, (.vec y0)), (1, yi64), (11, yi64), (12, yi64)], [(4, 52)]⟩)]⟩ else if i = 1050007 then some ⟨⟨[], []⟩, [(.normal, ⟨[(0, (.vec y0)), (1, yi64), (11, yi64), (12, yi64)], [(4, 52)]⟩)]⟩ else if i = 5 then some ⟨⟨[(0, (.vec y0)), (1, yi64), (11, yi64), (12, yi64)], [(4, 52)]⟩, [((.exit 4), ⟨[(0, (.vec y0)), (1, yi64), (11, yi64), (12, yi64)], [(4, 52)]⟩)]⟩ else if i = 1050006 then some ⟨⟨[], []⟩, [(.normal, ⟨[(0, (.vec y0)), (1, yi64), (11, yi64), (12, yi64)], [(4, 52)]⟩), ((.exit 4), ⟨[(0, (.vec y0)), (1, yi64), (11, yi64), (12, yi64)], [(4, 52)]⟩)]⟩ else if i = 1030005 then some ⟨⟨[], []⟩, [(.normal, ⟨[(0, (.vec y0)), (1, yi64), (11, yi64), (12, yi64)], [(4, 52)]⟩)]⟩ else if i = 3 then some ⟨⟨[(0, (.vec y0)), (1, yi64), (11, yi64), (12, yi64)], [(4, 52)]⟩, [((.exit 2), ⟨[(0, (.vec y0)), (1, yi64), (11, yi64), (12, yi64)], [(4, 52)]⟩)]⟩ else if i = 1030004 then some ⟨⟨[], []⟩, [(.normal, ⟨[(0, (.vec y0)), (1, yi64), (11, yi64), (12, yi64)], [(4, 52)]⟩), ((.exit 2), ⟨[(0, (.vec y0)), (1, yi64), (11, yi64), (12, yi64)], [(4, 52)]⟩)]⟩ else none
def c_partEq_g : List (Nat × Ctr) := [(52, c_cmp_c)]
theorem c_partEq_eq (v : PDen c_partEq_c.ps) : semF tbl (gam c_partEq_g) c_partEq_h fuelN 90 (bodyOf Tryz.f91) c_partEq_c.ps c_partEq_c.rs [10] [] v = c_partEq_c.g v := by kernel_rfl

/- 92: c_partition -/
def c_partition_c : Ctr := ⟨[.mu (.vec y0), .ro yi64, .ro yi64, .ro yi64, .ro (.clo 52 .unit)], [.val yi64, .val .bool], fun v => Srt.partition c_less v.1 v.2.1 v.2.2.1 v.2.2.2.1⟩
def c_partition_h : Nat → Option LH := fun i => if i = 1130021 then some ⟨⟨[], []⟩, [(.normal, ⟨[(0, (.vec y0)), (1, yi64), (13, yi64)], []⟩)]⟩ else if i = 100013 then some ⟨⟨[(0, (.vec y0)), (1, yi64), (12, yi64), (13, yi64)], [(4, 52)]⟩, [((.exit 4), ⟨[(0, (.vec y0)), (1, yi64), (13, yi64)], []⟩)]⟩ else if i = 1170018 then some ⟨⟨[], []⟩, [((.exit 4), ⟨[(0, (.vec y0)), (1, yi64), (13, yi64)], []⟩), (.normal, ⟨[(0, (.vec y0)), (1, yi64), (12, yi64), (13, yi64)], [(4, 52)]⟩)]⟩ else if i = 1150017 then some ⟨⟨[], []⟩, [(.normal, ⟨[(0, (.vec y0)), (1, yi64), (12, yi64), (13, yi64)], [(4, 52)]⟩)]⟩ else if i = 15 then some ⟨⟨[(0, (.vec y0)), (1, yi64), (12, yi64), (13, yi64)], [(4, 52)]⟩, [((.exit 8), ⟨[(0, (.vec y0)), (1, yi64), (12, yi64), (13, yi64)], [(4, 52)]⟩)]⟩ else if i = 1150016 then some ⟨⟨[], []⟩, [(.normal, ⟨[(0, (.vec y0)), (1, yi64), (12, yi64), (13, yi64)], [(4, 52)]⟩), ((.exit 8), ⟨[(0, (.vec y0)), (1, yi64), (12, yi64), (13, yi64)], [(4, 52)]⟩)]⟩ else if i = 1130015 then some ⟨⟨[], []⟩, [(.normal, ⟨[(0, (.vec y0)), (1, yi64), (12, yi64), (13, yi64)], [(4, 52)]⟩)]⟩ else if i = 13 then some ⟨⟨[(0, (.vec y0)), (1, yi64), (12, yi64), (13, yi64)], [(4, 52)]⟩, [((.exit 6), ⟨[(0, (.vec y0)), (1, yi64), (12, yi64), (13, yi64)], [(4, 52)]⟩)]⟩ else if i = 1130014 then some ⟨⟨[], []⟩, [(.normal, ⟨[(0, (.vec y0)), (1, yi64), (12, yi64), (13, yi64)], [(4, 52)]⟩), ((.exit 6), ⟨[(0, (.vec y0)), (1, yi64), (12, yi64), (13, yi64)], [(4, 52)]⟩)]⟩ else if i = 1070010 then some ⟨⟨[], []⟩, [(.ret, ⟨[(0, (.vec y0)), (10, yi64), (11, .bool)], []⟩), (.normal, ⟨[(0, (.vec y0)), (1, yi64), (12, yi64), (13, yi64)], [(4, 52)]⟩)]⟩ else if i = 1050007 then some ⟨⟨[], []⟩, [(.normal, ⟨[(0, (.vec y0)), (1, yi64), (12, yi64), (13, yi64)], [(4, 52)]⟩)]⟩ else if i = 5 then some ⟨⟨[(0, (.vec y0)), (1, yi64), (12, yi64), (13, yi64)], [(4, 52)]⟩, [((.exit 2), ⟨[(0, (.vec y0)), (1, yi64), (12, yi64), (13, yi64)], [(4, 52)]⟩)]⟩ else if i = 1050006 then some ⟨⟨[], []⟩, [(.normal, ⟨[(0, (.vec y0)), (1, yi64), (12, yi64), (13, yi64)], [(4, 52)]⟩), ((.exit 2), ⟨[(0, (.vec y0)), (1, yi64), (12, yi64), (13, yi64)], [(4, 52)]⟩)]⟩ else if i = 1030005 then some ⟨⟨[], []⟩, [(.normal, ⟨[(0, (.vec y0)), (1, yi64), (12, yi64), (13, yi64)], [(4, 52)]⟩)]⟩ else if i = 3 then some ⟨⟨[(0, (.vec y0)), (1, yi64), (12, yi64), (13, yi64)], [(4, 52)]⟩, [((.exit 0), ⟨[(0, (.vec y0)), (1, yi64), (12, yi64), (13, yi64)], [(4, 52)]⟩)]⟩ else if i = 1030004 then some ⟨⟨[], []⟩, [(.normal, ⟨[(0, (.vec y0)), (1, yi64), (12, yi64), (13, yi64)], [(4, 52)]⟩), ((.exit 0), ⟨[(0, (.vec y0)), (1, yi64), (12, yi64), (13, yi64)], [(4, 52)]⟩)]⟩ else none
def c_partition_g : List (Nat × Ctr) := [(52, c_cmp_c)]
theorem c_partition_eq (v : PDen c_partition_c.ps) : semF tbl (gam c_partition_g) c_partition_h fuelN 178 (bodyOf Tryz.f92) c_partition_c.ps c_partition_c.rs [10, 11] [] v = c_partition_c.g v := by kernel_rfl

/- 71: c_pdq0 -/
def c_pdq0_c (c_pdqR : List (Int × Int) → Int → Int → Int → Option (List (Int × Int) × Unit)) : Ctr := ⟨[.mu (.vec y0), .ro yi64, .ro yi64, .ro yi64, .ro (.clo 52 .unit)], [], fun v => Srt.pdq0 c_less c_pdqR v.1 v.2.1 v.2.2.1 v.2.2.2.1⟩
def c_pdq0_h : Nat → Option LH := fun i => if i = 2 then some ⟨⟨[(0, (.vec y0)), (1, yi64), (2, yi64), (3, yi64), (10, .bool), (11, .bool)], [(4, 52)]⟩, [(.ret, ⟨[(0, (.vec y0))], []⟩)]⟩ else if i = 1170020 then some ⟨⟨[], []⟩, [((.exit 1), ⟨[(0, (.vec y0)), (1, yi64), (2, yi64), (3, yi64), (10, .bool), (11, .bool)], [(4, 52)]⟩), (.normal, ⟨[(0, (.vec y0)), (1, yi64), (2, yi64), (3, yi64), (12, yi64), (13, yi64)], [(4, 52)]⟩)]⟩ else if i = 1170018 then some ⟨⟨[], []⟩, [(.normal, ⟨[(0, (.vec y0)), (1, yi64), (2, yi64), (3, yi64), (10, .bool), (11, .bool), (12, yi64), (13, yi64), (97, .bool)], [(4, 52)]⟩)]⟩ else if i = 1150017 then some ⟨⟨[], []⟩, [(.ret, ⟨[(0, (.vec y0))], []⟩), (.normal, ⟨[(0, (.vec y0)), (1, yi64), (2, yi64), (3, yi64), (10, .bool), (11, .bool), (12, yi64), (13, yi64)], [(4, 52)]⟩)]⟩ else if i = 1150016 then some ⟨⟨[], []⟩, [(.normal, ⟨[(0, (.vec y0)), (1, yi64), (2, yi64), (3, yi64), (10, .bool), (11, .bool), (12, yi64), (13, yi64), (75, .bool)], [(4, 52)]⟩)]⟩ else if i = 1110015 then some ⟨⟨[], []⟩, [(.normal, ⟨[(0, (.vec y0)), (1, yi64), (2, yi64), (3, yi64), (10, .bool), (11, .bool), (12, yi64), (13, yi64), (14, yi64)], [(4, 52)]⟩)]⟩ else if i = 1070010 then some ⟨⟨[], []⟩, [(.normal, ⟨[(0, (.vec y0)), (1, yi64), (2, yi64), (3, yi64), (10, .bool), (11, .bool), (12, yi64)], [(4, 52)]⟩)]⟩ else if i = 1050007 then some ⟨⟨[], []⟩, [(.ret, ⟨[(0, (.vec y0))], []⟩), (.normal, ⟨[(0, (.vec y0)), (1, yi64), (2, yi64), (3, yi64), (10, .bool), (11, .bool), (12, yi64)], [(4, 52)]⟩)]⟩ else if i = 1030005 then some ⟨⟨[], []⟩, [(.ret, ⟨[(0, (.vec y0))], []⟩), (.normal, ⟨[(0, (.vec y0)), (1, yi64), (2, yi64), (3, yi64), (10, .bool), (11, .bool), (12, yi64)], [(4, 52)]⟩)]⟩ else none
def c_pdq0_g (c_pdqR : List (Int × Int) → Int → Int → Int → Option (List (Int × Int) × Unit)) : List (Nat × Ctr) := [(52, c_cmp_c), (85, c_insSort_c), (86, c_heapSort_c), (87, c_breakPat_c), (88, c_choosePiv_c), (89, c_revRange_c), (90, c_partIns_c), (91, c_partEq_c), (92, c_partition_c), (71, (c_pdqR_cR c_pdqR))]
theorem c_pdq0_eq (c_pdqR : List (Int × Int) → Int → Int → Int → Option (List (Int × Int) × Unit)) (v : PDen (c_pdq0_c c_pdqR).ps) : semF tbl (gam (c_pdq0_g c_pdqR)) c_pdq0_h fuelN 148 (bodyOf Tryz.f71) (c_pdq0_c c_pdqR).ps (c_pdq0_c c_pdqR).rs [] [] v = (c_pdq0_c c_pdqR).g v := by kernel_rfl

/- 51: c_sortG -/
def c_sortG_c (c_pdqR : List (Int × Int) → Int → Int → Int → Option (List (Int × Int) × Unit)) : Ctr := ⟨[.mu (.vec y0), .ro (.clo 52 .unit)], [], fun v => Srt.sortG c_pdqR v.1⟩
def c_sortG_h : Nat → Option LH := fun i => none
def c_sortG_g (c_pdqR : List (Int × Int) → Int → Int → Int → Option (List (Int × Int) × Unit)) : List (Nat × Ctr) := [(72, i_bitsLen_c), (71, (c_pdqR_cR c_pdqR))]
theorem c_sortG_eq (c_pdqR : List (Int × Int) → Int → Int → Int → Option (List (Int × Int) × Unit)) (v : PDen (c_sortG_c c_pdqR).ps) : semF tbl (gam (c_sortG_g c_pdqR)) c_sortG_h fuelN 14 (bodyOf Tryz.f51) (c_sortG_c c_pdqR).ps (c_sortG_c c_pdqR).rs [] [] v = (c_sortG_c c_pdqR).g v := by kernel_rfl

/- 24: trema/tremaref05.Same -/
def refSame_s4 (a0 : List (Int × Int)) (a1 : List (Int × Int)) (a5 : Int) : Option ((List (Int × Int) × (List (Int × Int) × (Int × Unit))) ⊕ ((Bool × Unit) ⊕ Unit)) :=
 (Option.bind (show Option ((List (Int × Int) × (List (Int × Int) × (Int × Unit))) ⊕ Unit) from
 bif (decide (a5 < (a0.length : Int))) then
 some (.inl (a0, (a1, (a5, ()))))
 else
 some (.inr ())) fun y6 =>
 (match y6 with
 | .inl y6 =>
 (Option.bind (show Option ((Bool × Unit) ⊕ (List (Int × Int) × (List (Int × Int) × (Int × Unit)))) from
 (Option.bind (lk y6.1 y6.2.2.1) fun x8 =>
 (Option.bind (lk y6.2.1 y6.2.2.1) fun x9 =>
 bif (!((decide (x8.1 = x9.1) && decide (x8.2 = x9.2)))) then
 some (.inl (false, ()))
 else
 some (.inr (y6.1, (y6.2.1, (y6.2.2.1, ()))))))) fun y10 =>
 (match y10 with
 | .inl y10 =>
 some (.inr (.inl (y10.1, ())))
 | .inr y10 =>
 some (.inl (y10.1, (y10.2.1, ((IntKind.i64.wrap (y10.2.2.1 + (1 : Int))), ()))))))
 | .inr y6 =>
 some (.inr (.inr ()))))

def refSame (p0 : List (Int × Int)) (p1 : List (Int × Int)) : Option (Unit × (Bool × Unit)) :=
 (Option.bind (show Option ((Bool × Unit) ⊕ (List (Int × Int) × (List (Int × Int) × Unit))) from
 bif ((p0.length : Int) != (p1.length : Int)) then
 some (.inl (false, ()))
 else
 some (.inr (p0, (p1, ())))) fun y2 =>
 (match y2 with
 | .inl y2 =>
 some ((), (y2.1, ()))
 | .inr y2 =>
 (Option.bind (iterN (fun x => refSame_s4 x.1 x.2.1 x.2.2.1) fuelN (y2.1, (y2.2.1, ((0 : Int), ())))) fun y11 =>
 (match y11 with
 | .inl y11 =>
 some ((), (y11.1, ()))
 | .inr y11 =>
 some ((), (true, ()))))))


def refSame_c : Ctr := ⟨[.ro (.slice y0), .ro (.slice y0)], [.val .bool], fun v => refSame v.1 v.2.1⟩
def refSame_h : Nat → Option LH := fun i => if i = 4 then some ⟨⟨[(0, (.slice y0)), (1, (.slice y0)), (5, yi64)], []⟩, [(.ret, ⟨[(4, .bool)], []⟩), ((.exit 0), ⟨[], []⟩)]⟩ else if i = 1060005 then some ⟨⟨[], []⟩, [(.ret, ⟨[(4, .bool)], []⟩), (.normal, ⟨[(0, (.slice y0)), (1, (.slice y0)), (5, yi64)], []⟩)]⟩ else if i = 1040006 then some ⟨⟨[], []⟩, [(.normal, ⟨[(0, (.slice y0)), (1, (.slice y0)), (5, yi64)], []⟩), ((.exit 0), ⟨[], []⟩)]⟩ else if i = 1010003 then some ⟨⟨[], []⟩, [(.ret, ⟨[(4, .bool)], []⟩), (.normal, ⟨[(0, (.slice y0)), (1, (.slice y0))], []⟩)]⟩ else none
def refSame_g : List (Nat × Ctr) := []
theorem refSame_eq (v : PDen refSame_c.ps) : semF tbl (gam refSame_g) refSame_h fuelN 26 (bodyOf Tryz.f24) refSame_c.ps refSame_c.rs [4] [] v = refSame_c.g v := by kernel_rfl

/- 31: trema/rset.Norm -/
def rNorm_s3 (a3 : List (Int × Int)) (a10 : List (Int × Int)) (a11 : Int) (a12 : Int) : Option ((List (Int × Int) × (List (Int × Int) × (Int × (Int × Unit)))) ⊕ (List (Int × Int) × Unit)) :=
 bif (decide (a12 < a11)) then
 (Option.bind (lk a10 a12) fun x4 =>
 let v5 := (decide ((if (0 : Int) > x4.1 then (0 : Int) else x4.1) ≤ (if (1114111 : Int) < x4.2 then (1114111 : Int) else x4.2)))
 bif v5 then
 bif (roomOk (a3.length + [((if (0 : Int) > x4.1 then (0 : Int) else x4.1), (if (1114111 : Int) < x4.2 then (1114111 : Int) else x4.2))].length) 8) then
 let l6 := (a3 ++ [((if (0 : Int) > x4.1 then (0 : Int) else x4.1), (if (1114111 : Int) < x4.2 then (1114111 : Int) else x4.2))])
 some (.inl (l6, (a10, (a11, ((IntKind.i64.wrap (a12 + (1 : Int))), ())))))
 else none
 else
 some (.inl (a3, (a10, (a11, ((IntKind.i64.wrap (a12 + (1 : Int))), ()))))))
 else
 some (.inr (a3, ()))

def rNorm_s11 (a6 : List (Int × Int)) (a36 : List (Int × Int)) (a37 : Int) (a38 : Int) : Option ((List (Int × Int) × (List (Int × Int) × (Int × (Int × Unit)))) ⊕ (List (Int × Int) × Unit)) :=
 bif (decide (a38 < a37)) then
 (Option.bind (lk a36 a38) fun _x12 =>
 (Option.bind (lk a36 a38) fun x13 =>
 (Option.bind (show Option (List (Int × Int) × ((Int × Int) × (Int × (List (Int × Int) × (Int × (Int × (Bool × Unit))))))) from
 bif (decide ((a6.length : Int) > (0 : Int))) then
 (Option.bind (lk a6 (IntKind.i64.wrap ((a6.length : Int) - (1 : Int)))) fun _x15 =>
 (Option.bind (lk a6 (IntKind.i64.wrap ((a6.length : Int) - (1 : Int)))) fun x16 =>
 some (a6, (x13, ((a6.length : Int), (a36, (a37, (a38, ((decide (x13.1 ≤ (IntKind.i32.wrap (x16.2 + (1 : Int))))), ())))))))))
 else
 some (a6, (x13, ((a6.length : Int), (a36, (a37, (a38, (false, ())))))))) fun y17 =>
 bif y17.2.2.2.2.2.2.1 then
 (Option.bind (lk y17.1 (IntKind.i64.wrap (y17.2.2.1 - (1 : Int)))) fun _x18 =>
 (Option.bind (lk y17.1 (IntKind.i64.wrap (y17.2.2.1 - (1 : Int)))) fun x19 =>
 (Option.bind (lk y17.1 (IntKind.i64.wrap (y17.2.2.1 - (1 : Int)))) fun _x20 =>
 (Option.bind (lk y17.1 (IntKind.i64.wrap (y17.2.2.1 - (1 : Int)))) fun x21 =>
 let l22 := (y17.1.set (IntKind.i64.wrap (y17.2.2.1 - (1 : Int))).toNat (x21.1, (if y17.2.1.2 > x19.2 then y17.2.1.2 else x19.2)))
 some (.inl (l22, (y17.2.2.2.1, (y17.2.2.2.2.1, ((IntKind.i64.wrap (y17.2.2.2.2.2.1 + (1 : Int))), ())))))))))
 else
 bif (roomOk (y17.1.length + [y17.2.1].length) 8) then
 some (.inl ((y17.1 ++ [y17.2.1]), (y17.2.2.2.1, (y17.2.2.2.2.1, ((IntKind.i64.wrap (y17.2.2.2.2.2.1 + (1 : Int))), ())))))
 else none)))
 else
 some (.inr (a6, ()))

def rNorm (p0 : List (Int × Int)) : Option (Unit × (List (Int × Int) × Unit)) :=
 (Option.bind (show Option (List (Int × Int) × Unit) from
 (Option.bind (iterN (fun x => rNorm_s3 x.1 x.2.1 x.2.2.1 x.2.2.2.1) fuelN (([] : List (Int × Int)), (p0, ((p0.length : Int), ((0 : Int), ()))))) fun y7 =>
 some (y7.1, ()))) fun y8 =>
 (Option.bind (sortF y8.1) fun r9 =>
 (Option.bind (iterN (fun x => rNorm_s11 x.1 x.2.1 x.2.2.1 x.2.2.2.1) fuelN (([] : List (Int × Int)), (r9.1, ((r9.1.length : Int), ((0 : Int), ()))))) fun y23 =>
 some ((), (y23.1, ())))))


def rNorm_c : Ctr := ⟨[.ro (.slice y0)], [.own (.vec y0)], fun v => rNorm v.1⟩
def rNorm_h : Nat → Option LH := fun i => if i = 12 then some ⟨⟨[(6, (.vec y0)), (36, (.vec y0)), (37, yi64), (38, yi64)], []⟩, [((.exit 2), ⟨[(6, (.vec y0))], []⟩)]⟩ else if i = 1150016 then some ⟨⟨[], []⟩, [(.normal, ⟨[(6, (.vec y0)), (8, (.bx y0)), (9, yi64), (36, (.vec y0)), (37, yi64), (38, yi64), (57, .bool)], []⟩)]⟩ else if i = 1020009 then some ⟨⟨[], []⟩, [(.normal, ⟨[(3, (.vec y0))], []⟩)]⟩ else if i = 3 then some ⟨⟨[(3, (.vec y0)), (10, (.slice y0)), (11, yi64), (12, yi64)], []⟩, [((.exit 0), ⟨[(3, (.vec y0))], []⟩)]⟩ else none
def rNorm_g : List (Nat × Ctr) := [(51, sortF_c)]
theorem rNorm_eq (v : PDen rNorm_c.ps) : semF tbl (gam rNorm_g) rNorm_h fuelN 78 (bodyOf Tryz.f31) rNorm_c.ps rNorm_c.rs [2] [] v = rNorm_c.g v := by kernel_rfl

/- 61: slices.Equal[[]trema/api.Range,trema/api.Range] -/
def slEqual_s4 (a0 : List (Int × Int)) (a1 : List (Int × Int)) (a12 : Int) (a13 : Int) : Option ((List (Int × Int) × (List (Int × Int) × (Int × (Int × Unit)))) ⊕ ((Bool × Unit) ⊕ Unit)) :=
 bif (decide (a13 < a12)) then
 (Option.bind (lk a0 a13) fun x5 =>
 (Option.bind (lk a1 a13) fun x6 =>
 bif (!((decide (x5.1 = x6.1) && decide (x5.2 = x6.2)))) then
 some (.inr (.inl (false, ())))
 else
 some (.inl (a0, (a1, (a12, ((IntKind.i64.wrap (a13 + (1 : Int))), ())))))))
 else
 some (.inr (.inr ()))

def slEqual (p0 : List (Int × Int)) (p1 : List (Int × Int)) : Option (Unit × (Bool × Unit)) :=
 (Option.bind (show Option ((Bool × Unit) ⊕ (List (Int × Int) × (List (Int × Int) × Unit))) from
 bif ((p0.length : Int) != (p1.length : Int)) then
 some (.inl (false, ()))
 else
 some (.inr (p0, (p1, ())))) fun y2 =>
 (match y2 with
 | .inl y2 =>
 some ((), (y2.1, ()))
 | .inr y2 =>
 (Option.bind (iterN (fun x => slEqual_s4 x.1 x.2.1 x.2.2.1 x.2.2.2.1) fuelN (y2.1, (y2.2.1, ((y2.1.length : Int), ((0 : Int), ()))))) fun y7 =>
 (match y7 with
 | .inl y7 =>
 some ((), (y7.1, ()))
 | .inr y7 =>
 some ((), (true, ()))))))


def slEqual_c : Ctr := ⟨[.ro (.slice y0), .ro (.slice y0)], [.val .bool], fun v => slEqual v.1 v.2.1⟩
def slEqual_h : Nat → Option LH := fun i => if i = 4 then some ⟨⟨[(0, (.slice y0)), (1, (.slice y0)), (12, yi64), (13, yi64)], []⟩, [(.ret, ⟨[(4, .bool)], []⟩), ((.exit 0), ⟨[], []⟩)]⟩ else if i = 1010003 then some ⟨⟨[], []⟩, [(.ret, ⟨[(4, .bool)], []⟩), (.normal, ⟨[(0, (.slice y0)), (1, (.slice y0))], []⟩)]⟩ else none
def slEqual_g : List (Nat × Ctr) := []
theorem slEqual_eq (v : PDen slEqual_c.ps) : semF tbl (gam slEqual_g) slEqual_h fuelN 26 (bodyOf Tryz.f61) slEqual_c.ps slEqual_c.rs [4] [] v = slEqual_c.g v := by kernel_rfl

/- 57: trema/rset.Union$1 -/
def uF (p0 : Bool) (p1 : Bool) : Option (Unit × (Bool × Unit)) :=
 bif p0 then
 some ((), (true, ()))
 else
 some ((), (p1, ()))


def uF_c : Ctr := ⟨[.ro .bool, .ro .bool], [.val .bool], fun v => uF v.1 v.2.1⟩
def uF_h : Nat → Option LH := fun i => none
def uF_g : List (Nat × Ctr) := []
theorem uF_eq (v : PDen uF_c.ps) : semF tbl (gam uF_g) uF_h fuelN 9 (bodyOf Tryz.f57) uF_c.ps uF_c.rs [4] [] v = uF_c.g v := by kernel_rfl

/- 59: trema/rset.Meet$1 -/
def mF (p0 : Bool) (p1 : Bool) : Option (Unit × (Bool × Unit)) :=
 bif p0 then
 some ((), (p1, ()))
 else
 some ((), (false, ()))


def mF_c : Ctr := ⟨[.ro .bool, .ro .bool], [.val .bool], fun v => mF v.1 v.2.1⟩
def mF_h : Nat → Option LH := fun i => none
def mF_g : List (Nat × Ctr) := []
theorem mF_eq (v : PDen mF_c.ps) : semF tbl (gam mF_g) mF_h fuelN 9 (bodyOf Tryz.f59) mF_c.ps mF_c.rs [4] [] v = mF_c.g v := by kernel_rfl

/- 60: trema/rset.Minus$1 -/
def dF (p0 : Bool) (p1 : Bool) : Option (Unit × (Bool × Unit)) :=
 bif p0 then
 some ((), ((!p1), ()))
 else
 some ((), (false, ()))


def dF_c : Ctr := ⟨[.ro .bool, .ro .bool], [.val .bool], fun v => dF v.1 v.2.1⟩
def dF_h : Nat → Option LH := fun i => none
def dF_g : List (Nat × Ctr) := []
theorem dF_eq (v : PDen dF_c.ps) : semF tbl (gam dF_g) dF_h fuelN 10 (bodyOf Tryz.f60) dF_c.ps dF_c.rs [4] [] v = dF_c.g v := by kernel_rfl

/- 104: slices.Grow[[]trema/api.Range,trema/api.Range] -/
def grow (p1 : Int) : Option (Unit × (List (Int × Int) × Unit)) :=
 (Option.bind (show Option (Unit × (Int × Unit)) from
 bif (decide (p1 < (0 : Int))) then
 none
 else
 some ((), (p1, ()))) fun y2 =>
 let v3 := (IntKind.i64.wrap (y2.2.1 - (IntKind.i64.wrap ((0 : Int) - (0 : Int)))))
 bif (decide (v3 > (0 : Int))) then
 bif (inB (0 : Int) (0 : Int) 0) then
 bif (decide (0 ≤ v3) && roomOk (Int.toNat v3) 8) then
 bif (inB (0 : Int) (0 : Int) (List.replicate (Int.toNat v3) ((0 : Int), (0 : Int))).length) then
 some ((), (((((List.replicate (Int.toNat v3) ((0 : Int), (0 : Int)))).drop (0 : Int).toNat).take ((0 : Int) - (0 : Int)).toNat), ()))
 else none
 else none
 else none
 else
 some ((), (([] : List (Int × Int)), ())))


def grow_c : Ctr := ⟨[.ro .nils, .ro yi64], [.own (.vec y0)], fun v => grow v.2.1⟩
def grow_h : Nat → Option LH := fun i => if i = 1010003 then some ⟨⟨[], []⟩, [(.normal, ⟨[(0, .nils), (1, yi64)], []⟩)]⟩ else none
def grow_g : List (Nat × Ctr) := []
theorem grow_eq (v : PDen grow_c.ps) : semF tbl (gam grow_g) grow_h fuelN 27 (bodyOf Tryz.f104) grow_c.ps grow_c.rs [4] [] v = grow_c.g v := by kernel_rfl

/- 76: slices.Concat[[]trema/api.Range,trema/api.Range] -/
def concat_s3 (a0 : List (List (Int × Int))) (a3 : Int) (a9 : List (List (Int × Int))) (a10 : Int) (a11 : Int) : Option ((List (List (Int × Int)) × (Int × (List (List (Int × Int)) × (Int × (Int × Unit))))) ⊕ (List (List (Int × Int)) × (Int × Unit))) :=
 bif (decide (a11 < a10)) then
 (Option.bind (lk a9 a11) fun x4 =>
 let v5 := (decide ((IntKind.i64.wrap (a3 + (x4.length : Int))) < (0 : Int)))
 bif v5 then
 none
 else
 some (.inl (a0, ((IntKind.i64.wrap (a3 + (x4.length : Int))), (a9, (a10, ((IntKind.i64.wrap (a11 + (1 : Int))), ())))))))
 else
 some (.inr (a0, (a3, ())))

def concat_s10 (a6 : List (Int × Int)) (a25 : List (List (Int × Int))) (a26 : Int) (a27 : Int) : Option ((List (Int × Int) × (List (List (Int × Int)) × (Int × (Int × Unit)))) ⊕ (List (Int × Int) × Unit)) :=
 bif (decide (a27 < a26)) then
 (Option.bind (lk a25 a27) fun x11 =>
 bif (roomOk (a6.length + x11.length) 8) then
 some (.inl ((a6 ++ x11), (a25, (a26, ((IntKind.i64.wrap (a27 + (1 : Int))), ())))))
 else none)
 else
 some (.inr (a6, ()))

def concat (p0 : List (List (Int × Int))) : Option (Unit × (List (Int × Int) × Unit)) :=
 (Option.bind (show Option (List (List (Int × Int)) × (Int × Unit)) from
 (Option.bind (iterN (fun x => concat_s3 x.1 x.2.1 x.2.2.1 x.2.2.2.1 x.2.2.2.2.1) fuelN (p0, ((0 : Int), (p0, ((p0.length : Int), ((0 : Int), ())))))) fun y6 =>
 some (y6.1, (y6.2.1, ())))) fun y7 =>
 (Option.bind (grow y7.2.1) fun r8 =>
 (Option.bind (iterN (fun x => concat_s10 x.1 x.2.1 x.2.2.1 x.2.2.2.1) fuelN (r8.2.1, (y7.1, ((y7.1.length : Int), ((0 : Int), ()))))) fun y12 =>
 some ((), (y12.1, ())))))


def concat_c : Ctr := ⟨[.ro (.slice (.slice y0))], [.own (.vec y0)], fun v => concat v.1⟩
def concat_h : Nat → Option LH := fun i => if i = 11 then some ⟨⟨[(6, (.vec y0)), (25, (.slice (.slice y0))), (26, yi64), (27, yi64)], []⟩, [((.exit 2), ⟨[(6, (.vec y0))], []⟩)]⟩ else if i = 1020009 then some ⟨⟨[], []⟩, [(.normal, ⟨[(0, (.slice (.slice y0))), (3, yi64)], []⟩)]⟩ else if i = 3 then some ⟨⟨[(0, (.slice (.slice y0))), (3, yi64), (9, (.slice (.slice y0))), (10, yi64), (11, yi64)], []⟩, [((.exit 0), ⟨[(0, (.slice (.slice y0))), (3, yi64)], []⟩)]⟩ else none
def concat_g : List (Nat × Ctr) := [(104, grow_c)]
theorem concat_eq (v : PDen concat_c.ps) : semF tbl (gam concat_g) concat_h fuelN 36 (bodyOf Tryz.f76) concat_c.ps concat_c.rs [2] [] v = concat_c.g v := by kernel_rfl

/- 58: (trema/rset.sweep).run -/
def runU_s6 (a1 : List (Int × Int)) (a2 : List (Int × Int)) (a7 : List Int) (a21 : List (Int × Int)) (a22 : Int) (a23 : Int) : Option ((List (Int × Int) × (List (Int × Int) × (Unit × (List Int × (List (Int × Int) × (Int × (Int × Unit))))))) ⊕ (List (Int × Int) × (List (Int × Int) × (Unit × (List Int × Unit))))) :=
 bif (decide (a23 < a22)) then
 (Option.bind (lk a21 a23) fun _x7 =>
 (Option.bind (lk a21 a23) fun x8 =>
 bif (roomOk (a7.length + [x8.1, (IntKind.i32.wrap (x8.2 + (1 : Int)))].length) 4) then
 some (.inl (a1, (a2, ((), ((a7 ++ [x8.1, (IntKind.i32.wrap (x8.2 + (1 : Int)))]), (a21, (a22, ((IntKind.i64.wrap (a23 + (1 : Int))), ()))))))))
 else none))
 else
 some (.inr (a1, (a2, ((), (a7, ())))))

def runU_s20 (a1 : List (Int × Int)) (a2 : List (Int × Int)) (a7 : List Int) (a10 : List (Int × Int)) (a11 : Int) (a12 : Int) (a44 : (Nat × Nat)) (a45 : Int) (a46 : Int) : Option ((List (Int × Int) × (List (Int × Int) × (Unit × (List Int × (List (Int × Int) × (Int × (Int × ((Nat × Nat) × (Int × (Int × Unit)))))))))) ⊕ (List (Int × Int) × (List (Int × Int) × (Unit × (List Int × (List (Int × Int) × (Int × (Int × ((Nat × Nat) × (Int × (Int × Unit))))))))))) :=
 (Option.bind (show Option ((List (Int × Int) × (List (Int × Int) × (Unit × (List Int × (List (Int × Int) × (Int × (Int × ((Nat × Nat) × (Int × (Int × Unit)))))))))) ⊕ (List (Int × Int) × (List (Int × Int) × (Unit × (List Int × (List (Int × Int) × (Int × (Int × ((Nat × Nat) × (Int × (Int × Unit))))))))))) from
 bif (decide ((a1.length : Int) > (0 : Int))) then
 (Option.bind (lk a1 (0 : Int)) fun x22 =>
 bif (decide (x22.2 < a12)) then
 some (.inl (a1, (a2, ((), (a7, (a10, (a11, (a12, (a44, (a45, (a46, ())))))))))))
 else
 some (.inr (a1, (a2, ((), (a7, (a10, (a11, (a12, (a44, (a45, (a46, ()))))))))))))
 else
 some (.inr (a1, (a2, ((), (a7, (a10, (a11, (a12, (a44, (a45, (a46, ())))))))))))) fun y23 =>
 (match y23 with
 | .inl y23 =>
 bif (inB (1 : Int) (y23.1.length : Int) y23.1.length) then
 some (.inl ((cut y23.1 (1 : Int) (y23.1.length : Int)), (y23.2.1, ((), (y23.2.2.2.1, (y23.2.2.2.2.1, (y23.2.2.2.2.2.1, (y23.2.2.2.2.2.2.1, (y23.2.2.2.2.2.2.2.1, (y23.2.2.2.2.2.2.2.2.1, (y23.2.2.2.2.2.2.2.2.2.1, ())))))))))))
 else none
 | .inr y23 =>
 some (.inr (y23.1, (y23.2.1, ((), (y23.2.2.2.1, (y23.2.2.2.2.1, (y23.2.2.2.2.2.1, (y23.2.2.2.2.2.2.1, (y23.2.2.2.2.2.2.2.1, (y23.2.2.2.2.2.2.2.2.1, (y23.2.2.2.2.2.2.2.2.2.1, ())))))))))))))

def runU_s28 (a1 : List (Int × Int)) (a2 : List (Int × Int)) (a7 : List Int) (a10 : List (Int × Int)) (a11 : Int) (a12 : Int) (a44 : (Nat × Nat)) (a45 : Int) (a46 : Int) : Option ((List (Int × Int) × (List (Int × Int) × (Unit × (List Int × (List (Int × Int) × (Int × (Int × ((Nat × Nat) × (Int × (Int × Unit)))))))))) ⊕ (List (Int × Int) × (List (Int × Int) × (Unit × (List Int × (List (Int × Int) × (Int × (Int × ((Nat × Nat) × (Int × (Int × Unit))))))))))) :=
 (Option.bind (show Option ((List (Int × Int) × (List (Int × Int) × (Unit × (List Int × (List (Int × Int) × (Int × (Int × ((Nat × Nat) × (Int × (Int × Unit)))))))))) ⊕ (List (Int × Int) × (List (Int × Int) × (Unit × (List Int × (List (Int × Int) × (Int × (Int × ((Nat × Nat) × (Int × (Int × Unit))))))))))) from
 bif (decide ((a2.length : Int) > (0 : Int))) then
 (Option.bind (lk a2 (0 : Int)) fun x30 =>
 bif (decide (x30.2 < a12)) then
 some (.inl (a1, (a2, ((), (a7, (a10, (a11, (a12, (a44, (a45, (a46, ())))))))))))
 else
 some (.inr (a1, (a2, ((), (a7, (a10, (a11, (a12, (a44, (a45, (a46, ()))))))))))))
 else
 some (.inr (a1, (a2, ((), (a7, (a10, (a11, (a12, (a44, (a45, (a46, ())))))))))))) fun y31 =>
 (match y31 with
 | .inl y31 =>
 bif (inB (1 : Int) (y31.2.1.length : Int) y31.2.1.length) then
 some (.inl (y31.1, ((cut y31.2.1 (1 : Int) (y31.2.1.length : Int)), ((), (y31.2.2.2.1, (y31.2.2.2.2.1, (y31.2.2.2.2.2.1, (y31.2.2.2.2.2.2.1, (y31.2.2.2.2.2.2.2.1, (y31.2.2.2.2.2.2.2.2.1, (y31.2.2.2.2.2.2.2.2.2.1, ())))))))))))
 else none
 | .inr y31 =>
 some (.inr (y31.1, (y31.2.1, ((), (y31.2.2.2.1, (y31.2.2.2.2.1, (y31.2.2.2.2.2.1, (y31.2.2.2.2.2.2.1, (y31.2.2.2.2.2.2.2.1, (y31.2.2.2.2.2.2.2.2.1, (y31.2.2.2.2.2.2.2.2.2.1, ())))))))))))))

def runU_s16 (a1 : List (Int × Int)) (a2 : List (Int × Int)) (a7 : List Int) (a10 : List (Int × Int)) (a44 : (Nat × Nat)) (a45 : Int) (a46 : Int) : Option ((List (Int × Int) × (List (Int × Int) × (Unit × (List Int × (List (Int × Int) × ((Nat × Nat) × (Int × (Int × Unit)))))))) ⊕ (List (Int × Int) × Unit)) :=
 bif (decide (a46 < a45)) then
 bif (inR a46 a44.2) then
 (Option.bind (lk a7 (plusI a44.1 a46)) fun x17 =>
 (Option.bind (show Option (List (Int × Int) × (List (Int × Int) × (Unit × (List Int × (List (Int × Int) × (Int × (Int × ((Nat × Nat) × (Int × (Int × Unit)))))))))) from
 (Option.bind (iterN (fun x => runU_s20 x.1 x.2.1 x.2.2.2.1 x.2.2.2.2.1 x.2.2.2.2.2.1 x.2.2.2.2.2.2.1 x.2.2.2.2.2.2.2.1 x.2.2.2.2.2.2.2.2.1 x.2.2.2.2.2.2.2.2.2.1) fuelN (a1, (a2, ((), (a7, (a10, (a46, (x17, (a44, (a45, (a46, ()))))))))))) fun y24 =>
 some (y24.1, (y24.2.1, ((), (y24.2.2.2.1, (y24.2.2.2.2.1, (y24.2.2.2.2.2.1, (y24.2.2.2.2.2.2.1, (y24.2.2.2.2.2.2.2.1, (y24.2.2.2.2.2.2.2.2.1, (y24.2.2.2.2.2.2.2.2.2.1, ())))))))))))) fun y25 =>
 (Option.bind (show Option (List (Int × Int) × (List (Int × Int) × (Unit × (List Int × (List (Int × Int) × (Int × (Int × ((Nat × Nat) × (Int × (Int × Unit)))))))))) from
 (Option.bind (iterN (fun x => runU_s28 x.1 x.2.1 x.2.2.2.1 x.2.2.2.2.1 x.2.2.2.2.2.1 x.2.2.2.2.2.2.1 x.2.2.2.2.2.2.2.1 x.2.2.2.2.2.2.2.2.1 x.2.2.2.2.2.2.2.2.2.1) fuelN (y25.1, (y25.2.1, ((), (y25.2.2.2.1, (y25.2.2.2.2.1, (y25.2.2.2.2.2.1, (y25.2.2.2.2.2.2.1, (y25.2.2.2.2.2.2.2.1, (y25.2.2.2.2.2.2.2.2.1, (y25.2.2.2.2.2.2.2.2.2.1, ()))))))))))) fun y32 =>
 some (y32.1, (y32.2.1, ((), (y32.2.2.2.1, (y32.2.2.2.2.1, (y32.2.2.2.2.2.1, (y32.2.2.2.2.2.2.1, (y32.2.2.2.2.2.2.2.1, (y32.2.2.2.2.2.2.2.2.1, (y32.2.2.2.2.2.2.2.2.2.1, ())))))))))))) fun y33 =>
 (Option.bind (show Option (List (Int × Int) × (List (Int × Int) × (Unit × (List Int × (List (Int × Int) × (Int × (Int × ((Nat × Nat) × (Int × (Int × (Bool × Unit))))))))))) from
 bif (decide ((y33.1.length : Int) > (0 : Int))) then
 (Option.bind (lk y33.1 (0 : Int)) fun x35 =>
 bif (decide ((y33.2.1.length : Int) > (0 : Int))) then
 (Option.bind (lk y33.2.1 (0 : Int)) fun x36 =>
 (Option.bind (uF (decide (x35.1 ≤ y33.2.2.2.2.2.2.1)) (decide (x36.1 ≤ y33.2.2.2.2.2.2.1))) fun r37 =>
 some (y33.1, (y33.2.1, ((), (y33.2.2.2.1, (y33.2.2.2.2.1, (y33.2.2.2.2.2.1, (y33.2.2.2.2.2.2.1, (y33.2.2.2.2.2.2.2.1, (y33.2.2.2.2.2.2.2.2.1, (y33.2.2.2.2.2.2.2.2.2.1, (r37.2.1, ())))))))))))))
 else
 (Option.bind (uF (decide (x35.1 ≤ y33.2.2.2.2.2.2.1)) false) fun r38 =>
 some (y33.1, (y33.2.1, ((), (y33.2.2.2.1, (y33.2.2.2.2.1, (y33.2.2.2.2.2.1, (y33.2.2.2.2.2.2.1, (y33.2.2.2.2.2.2.2.1, (y33.2.2.2.2.2.2.2.2.1, (y33.2.2.2.2.2.2.2.2.2.1, (r38.2.1, ())))))))))))))
 else
 bif (decide ((y33.2.1.length : Int) > (0 : Int))) then
 (Option.bind (lk y33.2.1 (0 : Int)) fun x39 =>
 (Option.bind (uF false (decide (x39.1 ≤ y33.2.2.2.2.2.2.1))) fun r40 =>
 some (y33.1, (y33.2.1, ((), (y33.2.2.2.1, (y33.2.2.2.2.1, (y33.2.2.2.2.2.1, (y33.2.2.2.2.2.2.1, (y33.2.2.2.2.2.2.2.1, (y33.2.2.2.2.2.2.2.2.1, (y33.2.2.2.2.2.2.2.2.2.1, (r40.2.1, ())))))))))))))
 else
 (Option.bind (uF false false) fun r41 =>
 some (y33.1, (y33.2.1, ((), (y33.2.2.2.1, (y33.2.2.2.2.1, (y33.2.2.2.2.2.1, (y33.2.2.2.2.2.2.1, (y33.2.2.2.2.2.2.2.1, (y33.2.2.2.2.2.2.2.2.1, (y33.2.2.2.2.2.2.2.2.2.1, (r41.2.1, ()))))))))))))) fun y42 =>
 bif y42.2.2.2.2.2.2.2.2.2.2.1 then
 (Option.bind (lk y42.2.2.2.1 (IntKind.i64.wrap (y42.2.2.2.2.2.1 + (1 : Int)))) fun _x43 =>
 (Option.bind (lk y42.2.2.2.1 (IntKind.i64.wrap (y42.2.2.2.2.2.1 + (1 : Int)))) fun x44 =>
 bif (roomOk (y42.2.2.2.2.1.length + [(y42.2.2.2.2.2.2.1, (IntKind.i32.wrap (x44 - (1 : Int))))].length) 8) then
 let l45 := (y42.2.2.2.2.1 ++ [(y42.2.2.2.2.2.2.1, (IntKind.i32.wrap (x44 - (1 : Int))))])
 some (.inl (y42.1, (y42.2.1, ((), (y42.2.2.2.1, (l45, (y42.2.2.2.2.2.2.2.1, (y42.2.2.2.2.2.2.2.2.1, ((IntKind.i64.wrap (y42.2.2.2.2.2.2.2.2.2.1 + (1 : Int))), ())))))))))
 else none))
 else
 some (.inl (y42.1, (y42.2.1, ((), (y42.2.2.2.1, (y42.2.2.2.2.1, (y42.2.2.2.2.2.2.2.1, (y42.2.2.2.2.2.2.2.2.1, ((IntKind.i64.wrap (y42.2.2.2.2.2.2.2.2.2.1 + (1 : Int))), ())))))))))))))
 else none
 else
 some (.inr (a10, ()))

def runU (p1 : List (Int × Int)) (p2 : List (Int × Int)) : Option (Unit × (List (Int × Int) × Unit)) :=
 (Option.bind (rNorm p1) fun r1 =>
 (Option.bind (rNorm p2) fun r2 =>
 (Option.bind (show Option (List (Int × Int) × (List (Int × Int) × (Unit × (List Int × Unit)))) from
 (Option.bind (concat [r1.2.1, r2.2.1]) fun r4 =>
 (Option.bind (iterN (fun x => runU_s6 x.1 x.2.1 x.2.2.2.1 x.2.2.2.2.1 x.2.2.2.2.2.1 x.2.2.2.2.2.2.1) fuelN (r1.2.1, (r2.2.1, ((), ([(0 : Int), (1114112 : Int)], (r4.2.1, ((r4.2.1.length : Int), ((0 : Int), ())))))))) fun y9 =>
 some (y9.1, (y9.2.1, ((), (y9.2.2.2.1, ()))))))) fun y10 =>
 (Option.bind (sortI y10.2.2.2.1) fun r11 =>
 (Option.bind (compactI r11.1) fun r12 =>
 (Option.bind (show Option (List (Int × Int) × Unit) from
 bif (inB (0 : Int) (IntKind.i64.wrap ((r12.2.1.length : Int) - (1 : Int))) r12.2.1.length) then
 let v14 := ((IntKind.i64.wrap ((r12.2.1.length : Int) - (1 : Int))) - (0 : Int)).toNat
 (Option.bind (iterN (fun x => runU_s16 x.1 x.2.1 x.2.2.2.1 x.2.2.2.2.1 x.2.2.2.2.2.1 x.2.2.2.2.2.2.1 x.2.2.2.2.2.2.2.1) fuelN (y10.1, (y10.2.1, ((), (r12.2.1, (([] : List (Int × Int)), (((0 : Int).toNat, v14), ((v14 : Int), ((0 : Int), ()))))))))) fun y46 =>
 some (y46.1, ()))
 else none) fun y47 =>
 (Option.bind (rNorm y47.1) fun r48 =>
 some ((), (r48.2.1, ())))))))))


def runU_c : Ctr := ⟨[.ro (.st (.clo 57 .unit)), .ro (.slice y0), .ro (.slice y0)], [.own (.vec y0)], fun v => runU v.2.1 v.2.2.1⟩
def runU_h : Nat → Option LH := fun i => if i = 1110021 then some ⟨⟨[], []⟩, [(.normal, ⟨[(10, (.vec y0))], []⟩)]⟩ else if i = 12 then some ⟨⟨[(1, (.slice y0)), (2, (.slice y0)), (3, (.bx (.st (.clo 57 .unit)))), (7, (.vec yi32)), (10, (.vec y0)), (44, (.osl 1)), (45, yi64), (46, yi64)], []⟩, [((.exit 2), ⟨[(10, (.vec y0))], []⟩)]⟩ else if i = 1180019 then some ⟨⟨[], []⟩, [(.normal, ⟨[(1, (.slice y0)), (2, (.slice y0)), (3, (.bx (.st (.clo 57 .unit)))), (7, (.vec yi32)), (10, (.vec y0)), (11, yi64), (12, yi32), (44, (.osl 1)), (45, yi64), (46, yi64), (101, .bool)], []⟩)]⟩ else if i = 1160018 then some ⟨⟨[], []⟩, [(.normal, ⟨[(1, (.slice y0)), (2, (.slice y0)), (3, (.bx (.st (.clo 57 .unit)))), (7, (.vec yi32)), (10, (.vec y0)), (11, yi64), (12, yi32), (44, (.osl 1)), (45, yi64), (46, yi64)], []⟩)]⟩ else if i = 16 then some ⟨⟨[(1, (.slice y0)), (2, (.slice y0)), (3, (.bx (.st (.clo 57 .unit)))), (7, (.vec yi32)), (10, (.vec y0)), (11, yi64), (12, yi32), (44, (.osl 1)), (45, yi64), (46, yi64)], []⟩, [((.exit 6), ⟨[(1, (.slice y0)), (2, (.slice y0)), (3, (.bx (.st (.clo 57 .unit)))), (7, (.vec yi32)), (10, (.vec y0)), (11, yi64), (12, yi32), (44, (.osl 1)), (45, yi64), (46, yi64)], []⟩)]⟩ else if i = 1160017 then some ⟨⟨[], []⟩, [(.normal, ⟨[(1, (.slice y0)), (2, (.slice y0)), (3, (.bx (.st (.clo 57 .unit)))), (7, (.vec yi32)), (10, (.vec y0)), (11, yi64), (12, yi32), (44, (.osl 1)), (45, yi64), (46, yi64)], []⟩), ((.exit 6), ⟨[(1, (.slice y0)), (2, (.slice y0)), (3, (.bx (.st (.clo 57 .unit)))), (7, (.vec yi32)), (10, (.vec y0)), (11, yi64), (12, yi32), (44, (.osl 1)), (45, yi64), (46, yi64)], []⟩)]⟩ else if i = 1140016 then some ⟨⟨[], []⟩, [(.normal, ⟨[(1, (.slice y0)), (2, (.slice y0)), (3, (.bx (.st (.clo 57 .unit)))), (7, (.vec yi32)), (10, (.vec y0)), (11, yi64), (12, yi32), (44, (.osl 1)), (45, yi64), (46, yi64)], []⟩)]⟩ else if i = 14 then some ⟨⟨[(1, (.slice y0)), (2, (.slice y0)), (3, (.bx (.st (.clo 57 .unit)))), (7, (.vec yi32)), (10, (.vec y0)), (11, yi64), (12, yi32), (44, (.osl 1)), (45, yi64), (46, yi64)], []⟩, [((.exit 4), ⟨[(1, (.slice y0)), (2, (.slice y0)), (3, (.bx (.st (.clo 57 .unit)))), (7, (.vec yi32)), (10, (.vec y0)), (11, yi64), (12, yi32), (44, (.osl 1)), (45, yi64), (46, yi64)], []⟩)]⟩ else if i = 1140015 then some ⟨⟨[], []⟩, [(.normal, ⟨[(1, (.slice y0)), (2, (.slice y0)), (3, (.bx (.st (.clo 57 .unit)))), (7, (.vec yi32)), (10, (.vec y0)), (11, yi64), (12, yi32), (44, (.osl 1)), (45, yi64), (46, yi64)], []⟩), ((.exit 4), ⟨[(1, (.slice y0)), (2, (.slice y0)), (3, (.bx (.st (.clo 57 .unit)))), (7, (.vec yi32)), (10, (.vec y0)), (11, yi64), (12, yi32), (44, (.osl 1)), (45, yi64), (46, yi64)], []⟩)]⟩ else if i = 1030008 then some ⟨⟨[], []⟩, [(.normal, ⟨[(1, (.slice y0)), (2, (.slice y0)), (3, (.bx (.st (.clo 57 .unit)))), (7, (.vec yi32))], []⟩)]⟩ else if i = 4 then some ⟨⟨[(1, (.slice y0)), (2, (.slice y0)), (3, (.bx (.st (.clo 57 .unit)))), (7, (.vec yi32)), (21, (.vec y0)), (22, yi64), (23, yi64)], []⟩, [((.exit 0), ⟨[(1, (.slice y0)), (2, (.slice y0)), (3, (.bx (.st (.clo 57 .unit)))), (7, (.vec yi32))], []⟩)]⟩ else none
def runU_g : List (Nat × Ctr) := [(77, sortI_c), (78, compactI_c), (31, rNorm_c), (57, uF_c), (76, concat_c)]
theorem runU_eq (v : PDen runU_c.ps) : semF tbl (gam runU_g) runU_h fuelN 116 (bodyOf Tryz.f58) runU_c.ps runU_c.rs [6] [] v = runU_c.g v := by kernel_rfl

/- 58: (trema/rset.sweep).run -/
def runM_s6 (a1 : List (Int × Int)) (a2 : List (Int × Int)) (a7 : List Int) (a21 : List (Int × Int)) (a22 : Int) (a23 : Int) : Option ((List (Int × Int) × (List (Int × Int) × (Unit × (List Int × (List (Int × Int) × (Int × (Int × Unit))))))) ⊕ (List (Int × Int) × (List (Int × Int) × (Unit × (List Int × Unit))))) :=
 bif (decide (a23 < a22)) then
 (Option.bind (lk a21 a23) fun _x7 =>
 (Option.bind (lk a21 a23) fun x8 =>
 bif (roomOk (a7.length + [x8.1, (IntKind.i32.wrap (x8.2 + (1 : Int)))].length) 4) then
 some (.inl (a1, (a2, ((), ((a7 ++ [x8.1, (IntKind.i32.wrap (x8.2 + (1 : Int)))]), (a21, (a22, ((IntKind.i64.wrap (a23 + (1 : Int))), ()))))))))
 else none))
 else
 some (.inr (a1, (a2, ((), (a7, ())))))

def runM_s20 (a1 : List (Int × Int)) (a2 : List (Int × Int)) (a7 : List Int) (a10 : List (Int × Int)) (a11 : Int) (a12 : Int) (a44 : (Nat × Nat)) (a45 : Int) (a46 : Int) : Option ((List (Int × Int) × (List (Int × Int) × (Unit × (List Int × (List (Int × Int) × (Int × (Int × ((Nat × Nat) × (Int × (Int × Unit)))))))))) ⊕ (List (Int × Int) × (List (Int × Int) × (Unit × (List Int × (List (Int × Int) × (Int × (Int × ((Nat × Nat) × (Int × (Int × Unit))))))))))) :=
 (Option.bind (show Option ((List (Int × Int) × (List (Int × Int) × (Unit × (List Int × (List (Int × Int) × (Int × (Int × ((Nat × Nat) × (Int × (Int × Unit)))))))))) ⊕ (List (Int × Int) × (List (Int × Int) × (Unit × (List Int × (List (Int × Int) × (Int × (Int × ((Nat × Nat) × (Int × (Int × Unit))))))))))) from
 bif (decide ((a1.length : Int) > (0 : Int))) then
 (Option.bind (lk a1 (0 : Int)) fun x22 =>
 bif (decide (x22.2 < a12)) then
 some (.inl (a1, (a2, ((), (a7, (a10, (a11, (a12, (a44, (a45, (a46, ())))))))))))
 else
 some (.inr (a1, (a2, ((), (a7, (a10, (a11, (a12, (a44, (a45, (a46, ()))))))))))))
 else
 some (.inr (a1, (a2, ((), (a7, (a10, (a11, (a12, (a44, (a45, (a46, ())))))))))))) fun y23 =>
 (match y23 with
 | .inl y23 =>
 bif (inB (1 : Int) (y23.1.length : Int) y23.1.length) then
 some (.inl ((cut y23.1 (1 : Int) (y23.1.length : Int)), (y23.2.1, ((), (y23.2.2.2.1, (y23.2.2.2.2.1, (y23.2.2.2.2.2.1, (y23.2.2.2.2.2.2.1, (y23.2.2.2.2.2.2.2.1, (y23.2.2.2.2.2.2.2.2.1, (y23.2.2.2.2.2.2.2.2.2.1, ())))))))))))
 else none
 | .inr y23 =>
 some (.inr (y23.1, (y23.2.1, ((), (y23.2.2.2.1, (y23.2.2.2.2.1, (y23.2.2.2.2.2.1, (y23.2.2.2.2.2.2.1, (y23.2.2.2.2.2.2.2.1, (y23.2.2.2.2.2.2.2.2.1, (y23.2.2.2.2.2.2.2.2.2.1, ())))))))))))))

def runM_s28 (a1 : List (Int × Int)) (a2 : List (Int × Int)) (a7 : List Int) (a10 : List (Int × Int)) (a11 : Int) (a12 : Int) (a44 : (Nat × Nat)) (a45 : Int) (a46 : Int) : Option ((List (Int × Int) × (List (Int × Int) × (Unit × (List Int × (List (Int × Int) × (Int × (Int × ((Nat × Nat) × (Int × (Int × Unit)))))))))) ⊕ (List (Int × Int) × (List (Int × Int) × (Unit × (List Int × (List (Int × Int) × (Int × (Int × ((Nat × Nat) × (Int × (Int × Unit))))))))))) :=
 (Option.bind (show Option ((List (Int × Int) × (List (Int × Int) × (Unit × (List Int × (List (Int × Int) × (Int × (Int × ((Nat × Nat) × (Int × (Int × Unit)))))))))) ⊕ (List (Int × Int) × (List (Int × Int) × (Unit × (List Int × (List (Int × Int) × (Int × (Int × ((Nat × Nat) × (Int × (Int × Unit))))))))))) from
 bif (decide ((a2.length : Int) > (0 : Int))) then
 (Option.bind (lk a2 (0 : Int)) fun x30 =>
 bif (decide (x30.2 < a12)) then
 some (.inl (a1, (a2, ((), (a7, (a10, (a11, (a12, (a44, (a45, (a46, ())))))))))))
 else
 some (.inr (a1, (a2, ((), (a7, (a10, (a11, (a12, (a44, (a45, (a46, ()))))))))))))
 else
 some (.inr (a1, (a2, ((), (a7, (a10, (a11, (a12, (a44, (a45, (a46, ())))))))))))) fun y31 =>
 (match y31 with
 | .inl y31 =>
 bif (inB (1 : Int) (y31.2.1.length : Int) y31.2.1.length) then
 some (.inl (y31.1, ((cut y31.2.1 (1 : Int) (y31.2.1.length : Int)), ((), (y31.2.2.2.1, (y31.2.2.2.2.1, (y31.2.2.2.2.2.1, (y31.2.2.2.2.2.2.1, (y31.2.2.2.2.2.2.2.1, (y31.2.2.2.2.2.2.2.2.1, (y31.2.2.2.2.2.2.2.2.2.1, ())))))))))))
 else none
 | .inr y31 =>
 some (.inr (y31.1, (y31.2.1, ((), (y31.2.2.2.1, (y31.2.2.2.2.1, (y31.2.2.2.2.2.1, (y31.2.2.2.2.2.2.1, (y31.2.2.2.2.2.2.2.1, (y31.2.2.2.2.2.2.2.2.1, (y31.2.2.2.2.2.2.2.2.2.1, ())))))))))))))

def runM_s16 (a1 : List (Int × Int)) (a2 : List (Int × Int)) (a7 : List Int) (a10 : List (Int × Int)) (a44 : (Nat × Nat)) (a45 : Int) (a46 : Int) : Option ((List (Int × Int) × (List (Int × Int) × (Unit × (List Int × (List (Int × Int) × ((Nat × Nat) × (Int × (Int × Unit)))))))) ⊕ (List (Int × Int) × Unit)) :=
 bif (decide (a46 < a45)) then
 bif (inR a46 a44.2) then
 (Option.bind (lk a7 (plusI a44.1 a46)) fun x17 =>
 (Option.bind (show Option (List (Int × Int) × (List (Int × Int) × (Unit × (List Int × (List (Int × Int) × (Int × (Int × ((Nat × Nat) × (Int × (Int × Unit)))))))))) from
 (Option.bind (iterN (fun x => runM_s20 x.1 x.2.1 x.2.2.2.1 x.2.2.2.2.1 x.2.2.2.2.2.1 x.2.2.2.2.2.2.1 x.2.2.2.2.2.2.2.1 x.2.2.2.2.2.2.2.2.1 x.2.2.2.2.2.2.2.2.2.1) fuelN (a1, (a2, ((), (a7, (a10, (a46, (x17, (a44, (a45, (a46, ()))))))))))) fun y24 =>
 some (y24.1, (y24.2.1, ((), (y24.2.2.2.1, (y24.2.2.2.2.1, (y24.2.2.2.2.2.1, (y24.2.2.2.2.2.2.1, (y24.2.2.2.2.2.2.2.1, (y24.2.2.2.2.2.2.2.2.1, (y24.2.2.2.2.2.2.2.2.2.1, ())))))))))))) fun y25 =>
 (Option.bind (show Option (List (Int × Int) × (List (Int × Int) × (Unit × (List Int × (List (Int × Int) × (Int × (Int × ((Nat × Nat) × (Int × (Int × Unit)))))))))) from
 (Option.bind (iterN (fun x => runM_s28 x.1 x.2.1 x.2.2.2.1 x.2.2.2.2.1 x.2.2.2.2.2.1 x.2.2.2.2.2.2.1 x.2.2.2.2.2.2.2.1 x.2.2.2.2.2.2.2.2.1 x.2.2.2.2.2.2.2.2.2.1) fuelN (y25.1, (y25.2.1, ((), (y25.2.2.2.1, (y25.2.2.2.2.1, (y25.2.2.2.2.2.1, (y25.2.2.2.2.2.2.1, (y25.2.2.2.2.2.2.2.1, (y25.2.2.2.2.2.2.2.2.1, (y25.2.2.2.2.2.2.2.2.2.1, ()))))))))))) fun y32 =>
 some (y32.1, (y32.2.1, ((), (y32.2.2.2.1, (y32.2.2.2.2.1, (y32.2.2.2.2.2.1, (y32.2.2.2.2.2.2.1, (y32.2.2.2.2.2.2.2.1, (y32.2.2.2.2.2.2.2.2.1, (y32.2.2.2.2.2.2.2.2.2.1, ())))))))))))) fun y33 =>
 (Option.bind (show Option (List (Int × Int) × (List (Int × Int) × (Unit × (List Int × (List (Int × Int) × (Int × (Int × ((Nat × Nat) × (Int × (Int × (Bool × Unit))))))))))) from
 bif (decide ((y33.1.length : Int) > (0 : Int))) then
 (Option.bind (lk y33.1 (0 : Int)) fun x35 =>
 bif (decide ((y33.2.1.length : Int) > (0 : Int))) then
 (Option.bind (lk y33.2.1 (0 : Int)) fun x36 =>
 (Option.bind (mF (decide (x35.1 ≤ y33.2.2.2.2.2.2.1)) (decide (x36.1 ≤ y33.2.2.2.2.2.2.1))) fun r37 =>
 some (y33.1, (y33.2.1, ((), (y33.2.2.2.1, (y33.2.2.2.2.1, (y33.2.2.2.2.2.1, (y33.2.2.2.2.2.2.1, (y33.2.2.2.2.2.2.2.1, (y33.2.2.2.2.2.2.2.2.1, (y33.2.2.2.2.2.2.2.2.2.1, (r37.2.1, ())))))))))))))
 else
 (Option.bind (mF (decide (x35.1 ≤ y33.2.2.2.2.2.2.1)) false) fun r38 =>
 some (y33.1, (y33.2.1, ((), (y33.2.2.2.1, (y33.2.2.2.2.1, (y33.2.2.2.2.2.1, (y33.2.2.2.2.2.2.1, (y33.2.2.2.2.2.2.2.1, (y33.2.2.2.2.2.2.2.2.1, (y33.2.2.2.2.2.2.2.2.2.1, (r38.2.1, ())))))))))))))
 else
 bif (decide ((y33.2.1.length : Int) > (0 : Int))) then
 (Option.bind (lk y33.2.1 (0 : Int)) fun x39 =>
 (Option.bind (mF false (decide (x39.1 ≤ y33.2.2.2.2.2.2.1))) fun r40 =>
 some (y33.1, (y33.2.1, ((), (y33.2.2.2.1, (y33.2.2.2.2.1, (y33.2.2.2.2.2.1, (y33.2.2.2.2.2.2.1, (y33.2.2.2.2.2.2.2.1, (y33.2.2.2.2.2.2.2.2.1, (y33.2.2.2.2.2.2.2.2.2.1, (r40.2.1, ())))))))))))))
 else
 (Option.bind (mF false false) fun r41 =>
 some (y33.1, (y33.2.1, ((), (y33.2.2.2.1, (y33.2.2.2.2.1, (y33.2.2.2.2.2.1, (y33.2.2.2.2.2.2.1, (y33.2.2.2.2.2.2.2.1, (y33.2.2.2.2.2.2.2.2.1, (y33.2.2.2.2.2.2.2.2.2.1, (r41.2.1, ()))))))))))))) fun y42 =>
 bif y42.2.2.2.2.2.2.2.2.2.2.1 then
 (Option.bind (lk y42.2.2.2.1 (IntKind.i64.wrap (y42.2.2.2.2.2.1 + (1 : Int)))) fun _x43 =>
 (Option.bind (lk y42.2.2.2.1 (IntKind.i64.wrap (y42.2.2.2.2.2.1 + (1 : Int)))) fun x44 =>
 bif (roomOk (y42.2.2.2.2.1.length + [(y42.2.2.2.2.2.2.1, (IntKind.i32.wrap (x44 - (1 : Int))))].length) 8) then
 let l45 := (y42.2.2.2.2.1 ++ [(y42.2.2.2.2.2.2.1, (IntKind.i32.wrap (x44 - (1 : Int))))])
 some (.inl (y42.1, (y42.2.1, ((), (y42.2.2.2.1, (l45, (y42.2.2.2.2.2.2.2.1, (y42.2.2.2.2.2.2.2.2.1, ((IntKind.i64.wrap (y42.2.2.2.2.2.2.2.2.2.1 + (1 : Int))), ())))))))))
 else none))
 else
 some (.inl (y42.1, (y42.2.1, ((), (y42.2.2.2.1, (y42.2.2.2.2.1, (y42.2.2.2.2.2.2.2.1, (y42.2.2.2.2.2.2.2.2.1, ((IntKind.i64.wrap (y42.2.2.2.2.2.2.2.2.2.1 + (1 : Int))), ())))))))))))))
 else none
 else
 some (.inr (a10, ()))

def runM (p1 : List (Int × Int)) (p2 : List (Int × Int)) : Option (Unit × (List (Int × Int) × Unit)) :=
 (Option.bind (rNorm p1) fun r1 =>
 (Option.bind (rNorm p2) fun r2 =>
 (Option.bind (show Option (List (Int × Int) × (List (Int × Int) × (Unit × (List Int × Unit)))) from
 (Option.bind (concat [r1.2.1, r2.2.1]) fun r4 =>
 (Option.bind (iterN (fun x => runM_s6 x.1 x.2.1 x.2.2.2.1 x.2.2.2.2.1 x.2.2.2.2.2.1 x.2.2.2.2.2.2.1) fuelN (r1.2.1, (r2.2.1, ((), ([(0 : Int), (1114112 : Int)], (r4.2.1, ((r4.2.1.length : Int), ((0 : Int), ())))))))) fun y9 =>
 some (y9.1, (y9.2.1, ((), (y9.2.2.2.1, ()))))))) fun y10 =>
 (Option.bind (sortI y10.2.2.2.1) fun r11 =>
 (Option.bind (compactI r11.1) fun r12 =>
 (Option.bind (show Option (List (Int × Int) × Unit) from
 bif (inB (0 : Int) (IntKind.i64.wrap ((r12.2.1.length : Int) - (1 : Int))) r12.2.1.length) then
 let v14 := ((IntKind.i64.wrap ((r12.2.1.length : Int) - (1 : Int))) - (0 : Int)).toNat
 (Option.bind (iterN (fun x => runM_s16 x.1 x.2.1 x.2.2.2.1 x.2.2.2.2.1 x.2.2.2.2.2.1 x.2.2.2.2.2.2.1 x.2.2.2.2.2.2.2.1) fuelN (y10.1, (y10.2.1, ((), (r12.2.1, (([] : List (Int × Int)), (((0 : Int).toNat, v14), ((v14 : Int), ((0 : Int), ()))))))))) fun y46 =>
 some (y46.1, ()))
 else none) fun y47 =>
 (Option.bind (rNorm y47.1) fun r48 =>
 some ((), (r48.2.1, ())))))))))


def runM_c : Ctr := ⟨[.ro (.st (.clo 59 .unit)), .ro (.slice y0), .ro (.slice y0)], [.own (.vec y0)], fun v => runM v.2.1 v.2.2.1⟩
def runM_h : Nat → Option LH := fun i => if i = 1110021 then some ⟨⟨[], []⟩, [(.normal, ⟨[(10, (.vec y0))], []⟩)]⟩ else if i = 12 then some ⟨⟨[(1, (.slice y0)), (2, (.slice y0)), (3, (.bx (.st (.clo 59 .unit)))), (7, (.vec yi32)), (10, (.vec y0)), (44, (.osl 1)), (45, yi64), (46, yi64)], []⟩, [((.exit 2), ⟨[(10, (.vec y0))], []⟩)]⟩ else if i = 1180019 then some ⟨⟨[], []⟩, [(.normal, ⟨[(1, (.slice y0)), (2, (.slice y0)), (3, (.bx (.st (.clo 59 .unit)))), (7, (.vec yi32)), (10, (.vec y0)), (11, yi64), (12, yi32), (44, (.osl 1)), (45, yi64), (46, yi64), (101, .bool)], []⟩)]⟩ else if i = 1160018 then some ⟨⟨[], []⟩, [(.normal, ⟨[(1, (.slice y0)), (2, (.slice y0)), (3, (.bx (.st (.clo 59 .unit)))), (7, (.vec yi32)), (10, (.vec y0)), (11, yi64), (12, yi32), (44, (.osl 1)), (45, yi64), (46, yi64)], []⟩)]⟩ else if i = 16 then some ⟨⟨[(1, (.slice y0)), (2, (.slice y0)), (3, (.bx (.st (.clo 59 .unit)))), (7, (.vec yi32)), (10, (.vec y0)), (11, yi64), (12, yi32), (44, (.osl 1)), (45, yi64), (46, yi64)], []⟩, [((.exit 6), ⟨[(1, (.slice y0)), (2, (.slice y0)), (3, (.bx (.st (.clo 59 .unit)))), (7, (.vec yi32)), (10, (.vec y0)), (11, yi64), (12, yi32), (44, (.osl 1)), (45, yi64), (46, yi64)], []⟩)]⟩ else if i = 1160017 then some ⟨⟨[], []⟩, [(.normal, ⟨[(1, (.slice y0)), (2, (.slice y0)), (3, (.bx (.st (.clo 59 .unit)))), (7, (.vec yi32)), (10, (.vec y0)), (11, yi64), (12, yi32), (44, (.osl 1)), (45, yi64), (46, yi64)], []⟩), ((.exit 6), ⟨[(1, (.slice y0)), (2, (.slice y0)), (3, (.bx (.st (.clo 59 .unit)))), (7, (.vec yi32)), (10, (.vec y0)), (11, yi64), (12, yi32), (44, (.osl 1)), (45, yi64), (46, yi64)], []⟩)]⟩ else if i = 1140016 then some ⟨⟨[], []⟩, [(.normal, ⟨[(1, (.slice y0)), (2, (.slice y0)), (3, (.bx (.st (.clo 59 .unit)))), (7, (.vec yi32)), (10, (.vec y0)), (11, yi64), (12, yi32), (44, (.osl 1)), (45, yi64), (46, yi64)], []⟩)]⟩ else if i = 14 then some ⟨⟨[(1, (.slice y0)), (2, (.slice y0)), (3, (.bx (.st (.clo 59 .unit)))), (7, (.vec yi32)), (10, (.vec y0)), (11, yi64), (12, yi32), (44, (.osl 1)), (45, yi64), (46, yi64)], []⟩, [((.exit 4), ⟨[(1, (.slice y0)), (2, (.slice y0)), (3, (.bx (.st (.clo 59 .unit)))), (7, (.vec yi32)), (10, (.vec y0)), (11, yi64), (12, yi32), (44, (.osl 1)), (45, yi64), (46, yi64)], []⟩)]⟩ else if i = 1140015 then some ⟨⟨[], []⟩, [(.normal, ⟨[(1, (.slice y0)), (2, (.slice y0)), (3, (.bx (.st (.clo 59 .unit)))), (7, (.vec yi32)), (10, (.vec y0)), (11, yi64), (12, yi32), (44, (.osl 1)), (45, yi64), (46, yi64)], []⟩), ((.exit 4), ⟨[(1, (.slice y0)), (2, (.slice y0)), (3, (.bx (.st (.clo 59 .unit)))), (7, (.vec yi32)), (10, (.vec y0)), (11, yi64), (12, yi32), (44, (.osl 1)), (45, yi64), (46, yi64)], []⟩)]⟩ else if i = 1030008 then some ⟨⟨[], []⟩, [(.normal, ⟨[(1, (.slice y0)), (2, (.slice y0)), (3, (.bx (.st (.clo 59 .unit)))), (7, (.vec yi32))], []⟩)]⟩ else if i = 4 then some ⟨⟨[(1, (.slice y0)), (2, (.slice y0)), (3, (.bx (.st (.clo 59 .unit)))), (7, (.vec yi32)), (21, (.vec y0)), (22, yi64), (23, yi64)], []⟩, [((.exit 0), ⟨[(1, (.slice y0)), (2, (.slice y0)), (3, (.bx (.st (.clo 59 .unit)))), (7, (.vec yi32))], []⟩)]⟩ else none
def runM_g : List (Nat × Ctr) := [(77, sortI_c), (78, compactI_c), (31, rNorm_c), (59, mF_c), (76, concat_c)]
theorem runM_eq (v : PDen runM_c.ps) : semF tbl (gam runM_g) runM_h fuelN 116 (bodyOf Tryz.f58) runM_c.ps runM_c.rs [6] [] v = runM_c.g v := by kernel_rfl

/- 58: (trema/rset.sweep).run -/
def runD_s6 (a1 : List (Int × Int)) (a2 : List (Int × Int)) (a7 : List Int) (a21 : List (Int × Int)) (a22 : Int) (a23 : Int) : Option ((List (Int × Int) × (List (Int × Int) × (Unit × (List Int × (List (Int × Int) × (Int × (Int × Unit))))))) ⊕ (List (Int × Int) × (List (Int × Int) × (Unit × (List Int × Unit))))) :=
 bif (decide (a23 < a22)) then
 (Option.bind (lk a21 a23) fun _x7 =>
 (Option.bind (lk a21 a23) fun x8 =>
 bif (roomOk (a7.length + [x8.1, (IntKind.i32.wrap (x8.2 + (1 : Int)))].length) 4) then
 some (.inl (a1, (a2, ((), ((a7 ++ [x8.1, (IntKind.i32.wrap (x8.2 + (1 : Int)))]), (a21, (a22, ((IntKind.i64.wrap (a23 + (1 : Int))), ()))))))))
 else none))
 else
 some (.inr (a1, (a2, ((), (a7, ())))))

def runD_s20 (a1 : List (Int × Int)) (a2 : List (Int × Int)) (a7 : List Int) (a10 : List (Int × Int)) (a11 : Int) (a12 : Int) (a44 : (Nat × Nat)) (a45 : Int) (a46 : Int) : Option ((List (Int × Int) × (List (Int × Int) × (Unit × (List Int × (List (Int × Int) × (Int × (Int × ((Nat × Nat) × (Int × (Int × Unit)))))))))) ⊕ (List (Int × Int) × (List (Int × Int) × (Unit × (List Int × (List (Int × Int) × (Int × (Int × ((Nat × Nat) × (Int × (Int × Unit))))))))))) :=
 (Option.bind (show Option ((List (Int × Int) × (List (Int × Int) × (Unit × (List Int × (List (Int × Int) × (Int × (Int × ((Nat × Nat) × (Int × (Int × Unit)))))))))) ⊕ (List (Int × Int) × (List (Int × Int) × (Unit × (List Int × (List (Int × Int) × (Int × (Int × ((Nat × Nat) × (Int × (Int × Unit))))))))))) from
 bif (decide ((a1.length : Int) > (0 : Int))) then
 (Option.bind (lk a1 (0 : Int)) fun x22 =>
 bif (decide (x22.2 < a12)) then
 some (.inl (a1, (a2, ((), (a7, (a10, (a11, (a12, (a44, (a45, (a46, ())))))))))))
 else
 some (.inr (a1, (a2, ((), (a7, (a10, (a11, (a12, (a44, (a45, (a46, ()))))))))))))
 else
 some (.inr (a1, (a2, ((), (a7, (a10, (a11, (a12, (a44, (a45, (a46, ())))))))))))) fun y23 =>
 (match y23 with
 | .inl y23 =>
 bif (inB (1 : Int) (y23.1.length : Int) y23.1.length) then
 some (.inl ((cut y23.1 (1 : Int) (y23.1.length : Int)), (y23.2.1, ((), (y23.2.2.2.1, (y23.2.2.2.2.1, (y23.2.2.2.2.2.1, (y23.2.2.2.2.2.2.1, (y23.2.2.2.2.2.2.2.1, (y23.2.2.2.2.2.2.2.2.1, (y23.2.2.2.2.2.2.2.2.2.1, ())))))))))))
 else none
 | .inr y23 =>
 some (.inr (y23.1, (y23.2.1, ((), (y23.2.2.2.1, (y23.2.2.2.2.1, (y23.2.2.2.2.2.1, (y23.2.2.2.2.2.2.1, (y23.2.2.2.2.2.2.2.1, (y23.2.2.2.2.2.2.2.2.1, (y23.2.2.2.2.2.2.2.2.2.1, ())))))))))))))

def runD_s28 (a1 : List (Int × Int)) (a2 : List (Int × Int)) (a7 : List Int) (a10 : List (Int × Int)) (a11 : Int) (a12 : Int) (a44 : (Nat × Nat)) (a45 : Int) (a46 : Int) : Option ((List (Int × Int) × (List (Int × Int) × (Unit × (List Int × (List (Int × Int) × (Int × (Int × ((Nat × Nat) × (Int × (Int × Unit)))))))))) ⊕ (List (Int × Int) × (List (Int × Int) × (Unit × (List Int × (List (Int × Int) × (Int × (Int × ((Nat × Nat) × (Int × (Int × Unit))))))))))) :=
 (Option.bind (show Option ((List (Int × Int) × (List (Int × Int) × (Unit × (List Int × (List (Int × Int) × (Int × (Int × ((Nat × Nat) × (Int × (Int × Unit)))))))))) ⊕ (List (Int × Int) × (List (Int × Int) × (Unit × (List Int × (List (Int × Int) × (Int × (Int × ((Nat × Nat) × (Int × (Int × Unit))))))))))) from
 bif (decide ((a2.length : Int) > (0 : Int))) then
 (Option.bind (lk a2 (0 : Int)) fun x30 =>
 bif (decide (x30.2 < a12)) then
 some (.inl (a1, (a2, ((), (a7, (a10, (a11, (a12, (a44, (a45, (a46, ())))))))))))
 else
 some (.inr (a1, (a2, ((), (a7, (a10, (a11, (a12, (a44, (a45, (a46, ()))))))))))))
 else
 some (.inr (a1, (a2, ((), (a7, (a10, (a11, (a12, (a44, (a45, (a46, ())))))))))))) fun y31 =>
 (match y31 with
 | .inl y31 =>
 bif (inB (1 : Int) (y31.2.1.length : Int) y31.2.1.length) then
 some (.inl (y31.1, ((cut y31.2.1 (1 : Int) (y31.2.1.length : Int)), ((), (y31.2.2.2.1, (y31.2.2.2.2.1, (y31.2.2.2.2.2.1, (y31.2.2.2.2.2.2.1, (y31.2.2.2.2.2.2.2.1, (y31.2.2.2.2.2.2.2.2.1, (y31.2.2.2.2.2.2.2.2.2.1, ())))))))))))
 else none
 | .inr y31 =>
 some (.inr (y31.1, (y31.2.1, ((), (y31.2.2.2.1, (y31.2.2.2.2.1, (y31.2.2.2.2.2.1, (y31.2.2.2.2.2.2.1, (y31.2.2.2.2.2.2.2.1, (y31.2.2.2.2.2.2.2.2.1, (y31.2.2.2.2.2.2.2.2.2.1, ())))))))))))))

def runD_s16 (a1 : List (Int × Int)) (a2 : List (Int × Int)) (a7 : List Int) (a10 : List (Int × Int)) (a44 : (Nat × Nat)) (a45 : Int) (a46 : Int) : Option ((List (Int × Int) × (List (Int × Int) × (Unit × (List Int × (List (Int × Int) × ((Nat × Nat) × (Int × (Int × Unit)))))))) ⊕ (List (Int × Int) × Unit)) :=
 bif (decide (a46 < a45)) then
 bif (inR a46 a44.2) then
 (Option.bind (lk a7 (plusI a44.1 a46)) fun x17 =>
 (Option.bind (show Option (List (Int × Int) × (List (Int × Int) × (Unit × (List Int × (List (Int × Int) × (Int × (Int × ((Nat × Nat) × (Int × (Int × Unit)))))))))) from
 (Option.bind (iterN (fun x => runD_s20 x.1 x.2.1 x.2.2.2.1 x.2.2.2.2.1 x.2.2.2.2.2.1 x.2.2.2.2.2.2.1 x.2.2.2.2.2.2.2.1 x.2.2.2.2.2.2.2.2.1 x.2.2.2.2.2.2.2.2.2.1) fuelN (a1, (a2, ((), (a7, (a10, (a46, (x17, (a44, (a45, (a46, ()))))))))))) fun y24 =>
 some (y24.1, (y24.2.1, ((), (y24.2.2.2.1, (y24.2.2.2.2.1, (y24.2.2.2.2.2.1, (y24.2.2.2.2.2.2.1, (y24.2.2.2.2.2.2.2.1, (y24.2.2.2.2.2.2.2.2.1, (y24.2.2.2.2.2.2.2.2.2.1, ())))))))))))) fun y25 =>
 (Option.bind (show Option (List (Int × Int) × (List (Int × Int) × (Unit × (List Int × (List (Int × Int) × (Int × (Int × ((Nat × Nat) × (Int × (Int × Unit)))))))))) from
 (Option.bind (iterN (fun x => runD_s28 x.1 x.2.1 x.2.2.2.1 x.2.2.2.2.1 x.2.2.2.2.2.1 x.2.2.2.2.2.2.1 x.2.2.2.2.2.2.2.1 x.2.2.2.2.2.2.2.2.1 x.2.2.2.2.2.2.2.2.2.1) fuelN (y25.1, (y25.2.1, ((), (y25.2.2.2.1, (y25.2.2.2.2.1, (y25.2.2.2.2.2.1, (y25.2.2.2.2.2.2.1, (y25.2.2.2.2.2.2.2.1, (y25.2.2.2.2.2.2.2.2.1, (y25.2.2.2.2.2.2.2.2.2.1, ()))))))))))) fun y32 =>
 some (y32.1, (y32.2.1, ((), (y32.2.2.2.1, (y32.2.2.2.2.1, (y32.2.2.2.2.2.1, (y32.2.2.2.2.2.2.1, (y32.2.2.2.2.2.2.2.1, (y32.2.2.2.2.2.2.2.2.1, (y32.2.2.2.2.2.2.2.2.2.1, ())))))))))))) fun y33 =>
 (Option.bind (show Option (List (Int × Int) × (List (Int × Int) × (Unit × (List Int × (List (Int × Int) × (Int × (Int × ((Nat × Nat) × (Int × (Int × (Bool × Unit))))))))))) from
 bif (decide ((y33.1.length : Int) > (0 : Int))) then
 (Option.bind (lk y33.1 (0 : Int)) fun x35 =>
 bif (decide ((y33.2.1.length : Int) > (0 : Int))) then
 (Option.bind (lk y33.2.1 (0 : Int)) fun x36 =>
 (Option.bind (dF (decide (x35.1 ≤ y33.2.2.2.2.2.2.1)) (decide (x36.1 ≤ y33.2.2.2.2.2.2.1))) fun r37 =>
 some (y33.1, (y33.2.1, ((), (y33.2.2.2.1, (y33.2.2.2.2.1, (y33.2.2.2.2.2.1, (y33.2.2.2.2.2.2.1, (y33.2.2.2.2.2.2.2.1, (y33.2.2.2.2.2.2.2.2.1, (y33.2.2.2.2.2.2.2.2.2.1, (r37.2.1, ())))))))))))))
 else
 (Option.bind (dF (decide (x35.1 ≤ y33.2.2.2.2.2.2.1)) false) fun r38 =>
 some (y33.1, (y33.2.1, ((), (y33.2.2.2.1, (y33.2.2.2.2.1, (y33.2.2.2.2.2.1, (y33.2.2.2.2.2.2.1, (y33.2.2.2.2.2.2.2.1, (y33.2.2.2.2.2.2.2.2.1, (y33.2.2.2.2.2.2.2.2.2.1, (r38.2.1, ())))))))))))))
 else
 bif (decide ((y33.2.1.length : Int) > (0 : Int))) then
 (Option.bind (lk y33.2.1 (0 : Int)) fun x39 =>
 (Option.bind (dF false (decide (x39.1 ≤ y33.2.2.2.2.2.2.1))) fun r40 =>
 some (y33.1, (y33.2.1, ((), (y33.2.2.2.1, (y33.2.2.2.2.1, (y33.2.2.2.2.2.1, (y33.2.2.2.2.2.2.1, (y33.2.2.2.2.2.2.2.1, (y33.2.2.2.2.2.2.2.2.1, (y33.2.2.2.2.2.2.2.2.2.1, (r40.2.1, ())))))))))))))
 else
 (Option.bind (dF false false) fun r41 =>
 some (y33.1, (y33.2.1, ((), (y33.2.2.2.1, (y33.2.2.2.2.1, (y33.2.2.2.2.2.1, (y33.2.2.2.2.2.2.1, (y33.2.2.2.2.2.2.2.1, (y33.2.2.2.2.2.2.2.2.1, (y33.2.2.2.2.2.2.2.2.2.1, (r41.2.1, ()))))))))))))) fun y42 =>
 bif y42.2.2.2.2.2.2.2.2.2.2.1 then
 (Option.bind (lk y42.2.2.2.1 (IntKind.i64.wrap (y42.2.2.2.2.2.1 + (1 : Int)))) fun _x43 =>
 (Option.bind (lk y42.2.2.2.1 (IntKind.i64.wrap (y42.2.2.2.2.2.1 + (1 : Int)))) fun x44 =>
 bif (roomOk (y42.2.2.2.2.1.length + [(y42.2.2.2.2.2.2.1, (IntKind.i32.wrap (x44 - (1 : Int))))].length) 8) then
 let l45 := (y42.2.2.2.2.1 ++ [(y42.2.2.2.2.2.2.1, (IntKind.i32.wrap (x44 - (1 : Int))))])
 some (.inl (y42.1, (y42.2.1, ((), (y42.2.2.2.1, (l45, (y42.2.2.2.2.2.2.2.1, (y42.2.2.2.2.2.2.2.2.1, ((IntKind.i64.wrap (y42.2.2.2.2.2.2.2.2.2.1 + (1 : Int))), ())))))))))
 else none))
 else
 some (.inl (y42.1, (y42.2.1, ((), (y42.2.2.2.1, (y42.2.2.2.2.1, (y42.2.2.2.2.2.2.2.1, (y42.2.2.2.2.2.2.2.2.1, ((IntKind.i64.wrap (y42.2.2.2.2.2.2.2.2.2.1 + (1 : Int))), ())))))))))))))
 else none
 else
 some (.inr (a10, ()))

def runD (p1 : List (Int × Int)) (p2 : List (Int × Int)) : Option (Unit × (List (Int × Int) × Unit)) :=
 (Option.bind (rNorm p1) fun r1 =>
 (Option.bind (rNorm p2) fun r2 =>
 (Option.bind (show Option (List (Int × Int) × (List (Int × Int) × (Unit × (List Int × Unit)))) from
 (Option.bind (concat [r1.2.1, r2.2.1]) fun r4 =>
 (Option.bind (iterN (fun x => runD_s6 x.1 x.2.1 x.2.2.2.1 x.2.2.2.2.1 x.2.2.2.2.2.1 x.2.2.2.2.2.2.1) fuelN (r1.2.1, (r2.2.1, ((), ([(0 : Int), (1114112 : Int)], (r4.2.1, ((r4.2.1.length : Int), ((0 : Int), ())))))))) fun y9 =>
 some (y9.1, (y9.2.1, ((), (y9.2.2.2.1, ()))))))) fun y10 =>
 (Option.bind (sortI y10.2.2.2.1) fun r11 =>
 (Option.bind (compactI r11.1) fun r12 =>
 (Option.bind (show Option (List (Int × Int) × Unit) from
 bif (inB (0 : Int) (IntKind.i64.wrap ((r12.2.1.length : Int) - (1 : Int))) r12.2.1.length) then
 let v14 := ((IntKind.i64.wrap ((r12.2.1.length : Int) - (1 : Int))) - (0 : Int)).toNat
 (Option.bind (iterN (fun x => runD_s16 x.1 x.2.1 x.2.2.2.1 x.2.2.2.2.1 x.2.2.2.2.2.1 x.2.2.2.2.2.2.1 x.2.2.2.2.2.2.2.1) fuelN (y10.1, (y10.2.1, ((), (r12.2.1, (([] : List (Int × Int)), (((0 : Int).toNat, v14), ((v14 : Int), ((0 : Int), ()))))))))) fun y46 =>
 some (y46.1, ()))
 else none) fun y47 =>
 (Option.bind (rNorm y47.1) fun r48 =>
 some ((), (r48.2.1, ())))))))))


def runD_c : Ctr := ⟨[.ro (.st (.clo 60 .unit)), .ro (.slice y0), .ro (.slice y0)], [.own (.vec y0)], fun v => runD v.2.1 v.2.2.1⟩
def runD_h : Nat → Option LH := fun i => if i = 1110021 then some ⟨⟨[], []⟩, [(.normal, ⟨[(10, (.vec y0))], []⟩)]⟩ else if i = 12 then some ⟨⟨[(1, (.slice y0)), (2, (.slice y0)), (3, (.bx (.st (.clo 60 .unit)))), (7, (.vec yi32)), (10, (.vec y0)), (44, (.osl 1)), (45, yi64), (46, yi64)], []⟩, [((.exit 2), ⟨[(10, (.vec y0))], []⟩)]⟩ else if i = 1180019 then some ⟨⟨[], []⟩, [(.normal, ⟨[(1, (.slice y0)), (2, (.slice y0)), (3, (.bx (.st (.clo 60 .unit)))), (7, (.vec yi32)), (10, (.vec y0)), (11, yi64), (12, yi32), (44, (.osl 1)), (45, yi64), (46, yi64), (101, .bool)], []⟩)]⟩ else if i = 1160018 then some ⟨⟨[], []⟩, [(.normal, ⟨[(1, (.slice y0)), (2, (.slice y0)), (3, (.bx (.st (.clo 60 .unit)))), (7, (.vec yi32)), (10, (.vec y0)), (11, yi64), (12, yi32), (44, (.osl 1)), (45, yi64), (46, yi64)], []⟩)]⟩ else if i = 16 then some ⟨⟨[(1, (.slice y0)), (2, (.slice y0)), (3, (.bx (.st (.clo 60 .unit)))), (7, (.vec yi32)), (10, (.vec y0)), (11, yi64), (12, yi32), (44, (.osl 1)), (45, yi64), (46, yi64)], []⟩, [((.exit 6), ⟨[(1, (.slice y0)), (2, (.slice y0)), (3, (.bx (.st (.clo 60 .unit)))), (7, (.vec yi32)), (10, (.vec y0)), (11, yi64), (12, yi32), (44, (.osl 1)), (45, yi64), (46, yi64)], []⟩)]⟩ else if i = 1160017 then some ⟨⟨[], []⟩, [(.normal, ⟨[(1, (.slice y0)), (2, (.slice y0)), (3, (.bx (.st (.clo 60 .unit)))), (7, (.vec yi32)), (10, (.vec y0)), (11, yi64), (12, yi32), (44, (.osl 1)), (45, yi64), (46, yi64)], []⟩), ((.exit 6), ⟨[(1, (.slice y0)), (2, (.slice y0)), (3, (.bx (.st (.clo 60 .unit)))), (7, (.vec yi32)), (10, (.vec y0)), (11, yi64), (12, yi32), (44, (.osl 1)), (45, yi64), (46, yi64)], []⟩)]⟩ else if i = 1140016 then some ⟨⟨[], []⟩, [(.normal, ⟨[(1, (.slice y0)), (2, (.slice y0)), (3, (.bx (.st (.clo 60 .unit)))), (7, (.vec yi32)), (10, (.vec y0)), (11, yi64), (12, yi32), (44, (.osl 1)), (45, yi64), (46, yi64)], []⟩)]⟩ else if i = 14 then some ⟨⟨[(1, (.slice y0)), (2, (.slice y0)), (3, (.bx (.st (.clo 60 .unit)))), (7, (.vec yi32)), (10, (.vec y0)), (11, yi64), (12, yi32), (44, (.osl 1)), (45, yi64), (46, yi64)], []⟩, [((.exit 4), ⟨[(1, (.slice y0)), (2, (.slice y0)), (3, (.bx (.st (.clo 60 .unit)))), (7, (.vec yi32)), (10, (.vec y0)), (11, yi64), (12, yi32), (44, (.osl 1)), (45, yi64), (46, yi64)], []⟩)]⟩ else if i = 1140015 then some ⟨⟨[], []⟩, [(.normal, ⟨[(1, (.slice y0)), (2, (.slice y0)), (3, (.bx (.st (.clo 60 .unit)))), (7, (.vec yi32)), (10, (.vec y0)), (11, yi64), (12, yi32), (44, (.osl 1)), (45, yi64), (46, yi64)], []⟩), ((.exit 4), ⟨[(1, (.slice y0)), (2, (.slice y0)), (3, (.bx (.st (.clo 60 .unit)))), (7, (.vec yi32)), (10, (.vec y0)), (11, yi64), (12, yi32), (44, (.osl 1)), (45, yi64), (46, yi64)], []⟩)]⟩ else if i = 1030008 then some ⟨⟨[], []⟩, [(.normal, ⟨[(1, (.slice y0)), (2, (.slice y0)), (3, (.bx (.st (.clo 60 .unit)))), (7, (.vec yi32))], []⟩)]⟩ else if i = 4 then some ⟨⟨[(1, (.slice y0)), (2, (.slice y0)), (3, (.bx (.st (.clo 60 .unit)))), (7, (.vec yi32)), (21, (.vec y0)), (22, yi64), (23, yi64)], []⟩, [((.exit 0), ⟨[(1, (.slice y0)), (2, (.slice y0)), (3, (.bx (.st (.clo 60 .unit)))), (7, (.vec yi32))], []⟩)]⟩ else none
def runD_g : List (Nat × Ctr) := [(77, sortI_c), (78, compactI_c), (31, rNorm_c), (60, dF_c), (76, concat_c)]
theorem runD_eq (v : PDen runD_c.ps) : semF tbl (gam runD_g) runD_h fuelN 116 (bodyOf Tryz.f58) runD_c.ps runD_c.rs [6] [] v = runD_c.g v := by kernel_rfl

/- 34: trema/rset.Union -/
def rUnion (p0 : List (Int × Int)) (p1 : List (Int × Int)) : Option (Unit × (List (Int × Int) × Unit)) :=
 (Option.bind (runU p0 p1) fun r1 =>
 some ((), (r1.2.1, ())))


def rUnion_c : Ctr := ⟨[.ro (.slice y0), .ro (.slice y0)], [.own (.vec y0)], fun v => rUnion v.1 v.2.1⟩
def rUnion_h : Nat → Option LH := fun i => none
def rUnion_g : List (Nat × Ctr) := [(58, runU_c), (58, runM_c), (58, runD_c)]
theorem rUnion_eq (v : PDen rUnion_c.ps) : semF tbl (gam rUnion_g) rUnion_h fuelN 9 (bodyOf Tryz.f34) rUnion_c.ps rUnion_c.rs [4] [] v = rUnion_c.g v := by kernel_rfl

/- 36: trema/rset.Meet -/
def rMeet (p0 : List (Int × Int)) (p1 : List (Int × Int)) : Option (Unit × (List (Int × Int) × Unit)) :=
 (Option.bind (runM p0 p1) fun r1 =>
 some ((), (r1.2.1, ())))


def rMeet_c : Ctr := ⟨[.ro (.slice y0), .ro (.slice y0)], [.own (.vec y0)], fun v => rMeet v.1 v.2.1⟩
def rMeet_h : Nat → Option LH := fun i => none
def rMeet_g : List (Nat × Ctr) := [(58, runU_c), (58, runM_c), (58, runD_c)]
theorem rMeet_eq (v : PDen rMeet_c.ps) : semF tbl (gam rMeet_g) rMeet_h fuelN 9 (bodyOf Tryz.f36) rMeet_c.ps rMeet_c.rs [4] [] v = rMeet_c.g v := by kernel_rfl

/- 38: trema/rset.Minus -/
def rMinus (p0 : List (Int × Int)) (p1 : List (Int × Int)) : Option (Unit × (List (Int × Int) × Unit)) :=
 (Option.bind (runD p0 p1) fun r1 =>
 some ((), (r1.2.1, ())))


def rMinus_c : Ctr := ⟨[.ro (.slice y0), .ro (.slice y0)], [.own (.vec y0)], fun v => rMinus v.1 v.2.1⟩
def rMinus_h : Nat → Option LH := fun i => none
def rMinus_g : List (Nat × Ctr) := [(58, runU_c), (58, runM_c), (58, runD_c)]
theorem rMinus_eq (v : PDen rMinus_c.ps) : semF tbl (gam rMinus_g) rMinus_h fuelN 9 (bodyOf Tryz.f38) rMinus_c.ps rMinus_c.rs [4] [] v = rMinus_c.g v := by kernel_rfl

/- 66: trema/rset.Has$1 -/
def hasF (p0 : (Int × Int)) (p1 : Int) : Option (Unit × (Bool × Unit)) :=
 bif (decide (p0.1 ≤ p1)) then
 some ((), ((decide (p1 ≤ p0.2)), ()))
 else
 some ((), (false, ()))


def hasF_c : Ctr := ⟨[.ro y0, .ro (.rad yi32 0)], [.val .bool], fun v => hasF v.1 v.2.1⟩
def hasF_h : Nat → Option LH := fun i => none
def hasF_g : List (Nat × Ctr) := []
theorem hasF_eq (v : PDen hasF_c.ps) : semF tbl (gam hasF_g) hasF_h fuelN 14 (bodyOf Tryz.f66) hasF_c.ps hasF_c.rs [3] [] v = hasF_c.g v := by kernel_rfl

/- 83: slices.IndexFunc[[]trema/api.Range,trema/api.Range] -/
def indexFunc_s2 (a0 : List (Int × Int)) (a1 : (Int × Unit)) (a7 : Int) (a8 : Int) : Option ((List (Int × Int) × ((Int × Unit) × (Int × (Int × Unit)))) ⊕ ((Int × Unit) ⊕ Unit)) :=
 bif (decide (a8 < a7)) then
 (Option.bind (lk a0 a8) fun x3 =>
 (Option.bind (hasF x3 a1.1) fun r4 =>
 bif r4.2.1 then
 some (.inr (.inl (a8, ())))
 else
 some (.inl (a0, (a1, (a7, ((IntKind.i64.wrap (a8 + (1 : Int))), ())))))))
 else
 some (.inr (.inr ()))

def indexFunc (p0 : List (Int × Int)) (p1 : (Int × Unit)) : Option (Unit × (Int × Unit)) :=
 (Option.bind (iterN (fun x => indexFunc_s2 x.1 x.2.1 x.2.2.1 x.2.2.2.1) fuelN (p0, (p1, ((p0.length : Int), ((0 : Int), ()))))) fun y5 =>
 (match y5 with
 | .inl y5 =>
 some ((), (y5.1, ()))
 | .inr y5 =>
 some ((), ((-1 : Int), ()))))


def indexFunc_c : Ctr := ⟨[.ro (.slice y0), .ro (.clo 66 (.pair (.rad yi32 0) .unit))], [.val yi64], fun v => indexFunc v.1 v.2.1⟩
def indexFunc_h : Nat → Option LH := fun i => if i = 2 then some ⟨⟨[(0, (.slice y0)), (1, (.clo 66 (.pair (.rad yi32 0) .unit))), (7, yi64), (8, yi64)], []⟩, [(.ret, ⟨[(4, yi64)], []⟩), ((.exit 0), ⟨[], []⟩)]⟩ else none
def indexFunc_g : List (Nat × Ctr) := [(66, hasF_c)]
theorem indexFunc_eq (v : PDen indexFunc_c.ps) : semF tbl (gam indexFunc_g) indexFunc_h fuelN 19 (bodyOf Tryz.f83) indexFunc_c.ps indexFunc_c.rs [4] [] v = indexFunc_c.g v := by kernel_rfl

/- 65: slices.ContainsFunc[[]trema/api.Range,trema/api.Range] -/
def containsFunc (p0 : List (Int × Int)) (p1 : (Int × Unit)) : Option (Unit × (Bool × Unit)) :=
 (Option.bind (indexFunc p0 p1) fun r1 =>
 some ((), ((decide (r1.2.1 ≥ (0 : Int))), ())))


def containsFunc_c : Ctr := ⟨[.ro (.slice y0), .ro (.clo 66 (.pair (.rad yi32 0) .unit))], [.val .bool], fun v => containsFunc v.1 v.2.1⟩
def containsFunc_h : Nat → Option LH := fun i => none
def containsFunc_g : List (Nat × Ctr) := [(83, indexFunc_c)]
theorem containsFunc_eq (v : PDen containsFunc_c.ps) : semF tbl (gam containsFunc_g) containsFunc_h fuelN 9 (bodyOf Tryz.f65) containsFunc_c.ps containsFunc_c.rs [4] [] v = containsFunc_c.g v := by kernel_rfl

/- 42: trema/rset.Has -/
def rHas (p0 : List (Int × Int)) (p1 : Int) : Option (Unit × (Bool × Unit)) :=
 bif (decide (p1 ≥ (0 : Int))) then
 bif (decide (p1 ≤ (1114111 : Int))) then
 (Option.bind (containsFunc p0 (p1, ())) fun r1 =>
 some ((), (r1.2.1, ())))
 else
 some ((), (false, ()))
 else
 some ((), (false, ()))


def rHas_c : Ctr := ⟨[.ro (.slice y0), .ro yi32], [.val .bool], fun v => rHas v.1 v.2.1⟩
def rHas_h : Nat → Option LH := fun i => none
def rHas_g : List (Nat × Ctr) := [(65, containsFunc_c)]
theorem rHas_eq (v : PDen rHas_c.ps) : semF tbl (gam rHas_g) rHas_h fuelN 16 (bodyOf Tryz.f42) rHas_c.ps rHas_c.rs [4] [] v = rHas_c.g v := by kernel_rfl

/- 44: trema/tremaref05.Has -/
def refHas_s2 (a0 : List (Int × Int)) (a1 : Int) (a5 : Int) : Option ((List (Int × Int) × (Int × (Int × Unit))) ⊕ ((Bool × Unit) ⊕ Unit)) :=
 (Option.bind (show Option ((List (Int × Int) × (Int × (Int × Unit))) ⊕ Unit) from
 bif (decide (a5 < (a0.length : Int))) then
 some (.inl (a0, (a1, (a5, ()))))
 else
 some (.inr ())) fun y4 =>
 (match y4 with
 | .inl y4 =>
 (Option.bind (show Option ((Bool × Unit) ⊕ (List (Int × Int) × (Int × (Int × Unit)))) from
 bif (decide (y4.2.1 ≥ (0 : Int))) then
 bif (decide (y4.2.1 ≤ (1114111 : Int))) then
 (Option.bind (lk y4.1 y4.2.2.1) fun x6 =>
 bif (decide (x6.1 ≤ y4.2.1)) then
 (Option.bind (lk y4.1 y4.2.2.1) fun x7 =>
 bif (decide (y4.2.1 ≤ x7.2)) then
 some (.inl (true, ()))
 else
 some (.inr (y4.1, (y4.2.1, (y4.2.2.1, ())))))
 else
 some (.inr (y4.1, (y4.2.1, (y4.2.2.1, ())))))
 else
 some (.inr (y4.1, (y4.2.1, (y4.2.2.1, ()))))
 else
 some (.inr (y4.1, (y4.2.1, (y4.2.2.1, ()))))) fun y8 =>
 (match y8 with
 | .inl y8 =>
 some (.inr (.inl (y8.1, ())))
 | .inr y8 =>
 some (.inl (y8.1, (y8.2.1, ((IntKind.i64.wrap (y8.2.2.1 + (1 : Int))), ()))))))
 | .inr y4 =>
 some (.inr (.inr ()))))

def refHas (p0 : List (Int × Int)) (p1 : Int) : Option (Unit × (Bool × Unit)) :=
 (Option.bind (iterN (fun x => refHas_s2 x.1 x.2.1 x.2.2.1) fuelN (p0, (p1, ((0 : Int), ())))) fun y9 =>
 (match y9 with
 | .inl y9 =>
 some ((), (y9.1, ()))
 | .inr y9 =>
 some ((), (false, ()))))


def refHas_c : Ctr := ⟨[.ro (.slice y0), .ro yi32], [.val .bool], fun v => refHas v.1 v.2.1⟩
def refHas_h : Nat → Option LH := fun i => if i = 2 then some ⟨⟨[(0, (.slice y0)), (1, yi32), (5, yi64)], []⟩, [(.ret, ⟨[(4, .bool)], []⟩), ((.exit 0), ⟨[], []⟩)]⟩ else if i = 1040003 then some ⟨⟨[], []⟩, [(.ret, ⟨[(4, .bool)], []⟩), (.normal, ⟨[(0, (.slice y0)), (1, yi32), (5, yi64)], []⟩)]⟩ else if i = 1020004 then some ⟨⟨[], []⟩, [(.normal, ⟨[(0, (.slice y0)), (1, yi32), (5, yi64)], []⟩), ((.exit 0), ⟨[], []⟩)]⟩ else none
def refHas_g : List (Nat × Ctr) := []
theorem refHas_eq (v : PDen refHas_c.ps) : semF tbl (gam refHas_g) refHas_h fuelN 36 (bodyOf Tryz.f44) refHas_c.ps refHas_c.rs [4] [] v = refHas_c.g v := by kernel_rfl

/- 82: trema/utf.Valid -/
def utfValid (p0 : Int) : Option (Unit × (Bool × Unit)) :=
 bif (decide (p0 ≥ (0 : Int))) then
 bif (decide (p0 ≤ (1114111 : Int))) then
 bif (decide (p0 < (55296 : Int))) then
 some ((), (true, ()))
 else
 some ((), ((decide (p0 > (57343 : Int))), ()))
 else
 some ((), (false, ()))
 else
 some ((), (false, ()))


def utfValid_c : Ctr := ⟨[.ro yi32], [.val .bool], fun v => utfValid v.1⟩
def utfValid_h : Nat → Option LH := fun i => none
def utfValid_g : List (Nat × Ctr) := []
theorem utfValid_eq (v : PDen utfValid_c.ps) : semF tbl (gam utfValid_g) utfValid_h fuelN 17 (bodyOf Tryz.f82) utfValid_c.ps utfValid_c.rs [2] [] v = utfValid_c.g v := by kernel_rfl

/- 125: trema/utf.lead -/
def utfLead (p0 : Int) : Option (Unit × (Int × (Int × (Int × (Int × Unit))))) :=
 (Option.bind (show Option ((Int × (Int × (Int × (Int × Unit)))) ⊕ (Int × (Int × (Int × Unit)))) from
 bif (decide (p0 < (128 : Int))) then
 some (.inl ((1 : Int), ((IntKind.i32.wrap (p0)), ((128 : Int), ((191 : Int), ())))))
 else
 (Option.bind (show Option (Int × (Int × (Int × (Bool × Unit)))) from
 bif (decide (p0 < (194 : Int))) then
 some (p0, ((128 : Int), ((191 : Int), (true, ()))))
 else
 some (p0, ((128 : Int), ((191 : Int), ((decide (p0 > (244 : Int))), ()))))) fun y3 =>
 bif y3.2.2.2.1 then
 some (.inl ((0 : Int), ((0 : Int), (y3.2.1, (y3.2.2.1, ())))))
 else
 bif (decide (y3.1 < (224 : Int))) then
 let v4 := (IntKind.u8.wrap (((BitVec.ofInt IntKind.u8.bits y3.1 &&& BitVec.ofInt IntKind.u8.bits (31 : Int)).toNat : Int)))
 some (.inl ((2 : Int), ((IntKind.i32.wrap (v4)), (y3.2.1, (y3.2.2.1, ())))))
 else
 bif (decide (y3.1 < (240 : Int))) then
 (Option.bind (show Option (Int × (Int × (Int × Unit))) from
 bif (y3.1 == (224 : Int)) then
 some (y3.1, ((160 : Int), (y3.2.2.1, ())))
 else
 bif (y3.1 == (237 : Int)) then
 some (y3.1, (y3.2.1, ((159 : Int), ())))
 else
 some (y3.1, (y3.2.1, (y3.2.2.1, ())))) fun y6 =>
 let v7 := (IntKind.u8.wrap (((BitVec.ofInt IntKind.u8.bits y6.1 &&& BitVec.ofInt IntKind.u8.bits (15 : Int)).toNat : Int)))
 some (.inl ((3 : Int), ((IntKind.i32.wrap (v7)), (y6.2.1, (y6.2.2.1, ()))))))
 else
 some (.inr (y3.1, (y3.2.1, (y3.2.2.1, ())))))) fun y8 =>
 (match y8 with
 | .inl y8 =>
 some ((), (y8.1, (y8.2.1, (y8.2.2.1, (y8.2.2.2.1, ())))))
 | .inr y8 =>
 (Option.bind (show Option (Int × (Int × (Int × Unit))) from
 bif (y8.1 == (240 : Int)) then
 some (y8.1, ((144 : Int), (y8.2.2.1, ())))
 else
 bif (y8.1 == (244 : Int)) then
 some (y8.1, (y8.2.1, ((143 : Int), ())))
 else
 some (y8.1, (y8.2.1, (y8.2.2.1, ())))) fun y10 =>
 let v11 := (IntKind.u8.wrap (((BitVec.ofInt IntKind.u8.bits y10.1 &&& BitVec.ofInt IntKind.u8.bits (7 : Int)).toNat : Int)))
 some ((), ((4 : Int), ((IntKind.i32.wrap (v11)), (y10.2.1, (y10.2.2.1, ()))))))))


def utfLead_c : Ctr := ⟨[.ro yu8], [.val yi64, .val yi32, .val yu8, .val yu8], fun v => utfLead v.1⟩
def utfLead_h : Nat → Option LH := fun i => if i = 1140018 then some ⟨⟨[], []⟩, [(.normal, ⟨[(0, yu8), (4, yu8), (5, yu8)], []⟩)]⟩ else if i = 1020014 then some ⟨⟨[], []⟩, [(.ret, ⟨[(2, yi64), (3, yi32), (4, yu8), (5, yu8)], []⟩), (.normal, ⟨[(0, yu8), (4, yu8), (5, yu8)], []⟩)]⟩ else if i = 1090013 then some ⟨⟨[], []⟩, [(.normal, ⟨[(0, yu8), (4, yu8), (5, yu8)], []⟩)]⟩ else if i = 1040005 then some ⟨⟨[], []⟩, [(.normal, ⟨[(0, yu8), (4, yu8), (5, yu8), (13, .bool)], []⟩)]⟩ else none
def utfLead_g : List (Nat × Ctr) := []
theorem utfLead_eq (v : PDen utfLead_c.ps) : semF tbl (gam utfLead_g) utfLead_h fuelN 51 (bodyOf Tryz.f125) utfLead_c.ps utfLead_c.rs [2, 3, 4, 5] [] v = utfLead_c.g v := by kernel_rfl

/- 106: trema/utf.one -/
def utfOne_s7 (a0 : List Int) (a2 : Int) (a5 : Int) (a6 : Int) (a7 : Int) (a8 : Int) : Option ((List Int × (Int × (Int × (Int × (Int × (Int × Unit)))))) ⊕ ((Int × (Int × (Bool × Unit))) ⊕ (Int × (Int × Unit)))) :=
 (Option.bind (show Option ((List Int × (Int × (Int × (Int × (Int × (Int × Unit)))))) ⊕ (Int × (Int × Unit))) from
 bif (decide (a8 < a5)) then
 some (.inl (a0, (a2, (a5, (a6, (a7, (a8, ())))))))
 else
 some (.inr (a2, (a5, ())))) fun y9 =>
 (match y9 with
 | .inl y9 =>
 (Option.bind (show Option ((Int × (Int × (Bool × Unit))) ⊕ (List Int × (Int × (Int × (Int × (Int × (Int × Unit))))))) from
 (Option.bind (show Option ((Int × (Int × (Bool × Unit))) ⊕ (List Int × (Int × (Int × (Int × (Int × (Int × Unit))))))) from
 bif (y9.2.2.2.2.2.1 == (y9.1.length : Int)) then
 some (.inl ((65533 : Int), (y9.2.2.2.2.2.1, (true, ()))))
 else
 some (.inr (y9.1, (y9.2.1, (y9.2.2.1, (y9.2.2.2.1, (y9.2.2.2.2.1, (y9.2.2.2.2.2.1, ())))))))) fun y12 =>
 (match y12 with
 | .inl y12 =>
 some (.inl (y12.1, (y12.2.1, (y12.2.2.1, ()))))
 | .inr y12 =>
 (Option.bind (show Option ((Int × (Int × (Bool × Unit))) ⊕ (List Int × (Int × (Int × (Int × Unit))))) from
 (Option.bind (show Option (List Int × (Int × (Int × (Int × (Bool × Unit))))) from
 (Option.bind (lk y12.1 y12.2.2.2.2.2.1) fun x15 =>
 bif (decide (x15 < y12.2.2.2.1)) then
 some (y12.1, (y12.2.1, (y12.2.2.1, (y12.2.2.2.2.2.1, (true, ())))))
 else
 (Option.bind (lk y12.1 y12.2.2.2.2.2.1) fun x16 =>
 some (y12.1, (y12.2.1, (y12.2.2.1, (y12.2.2.2.2.2.1, ((decide (x16 > y12.2.2.2.2.1)), ())))))))) fun y17 =>
 bif y17.2.2.2.2.1 then
 some (.inl ((65533 : Int), (y17.2.2.2.1, (false, ()))))
 else
 some (.inr (y17.1, (y17.2.1, (y17.2.2.1, (y17.2.2.2.1, ()))))))) fun y18 =>
 (match y18 with
 | .inl y18 =>
 some (.inl (y18.1, (y18.2.1, (y18.2.2.1, ()))))
 | .inr y18 =>
 bif (decide (0 ≤ (6 : Int))) then
 let v19 := (IntKind.i32.wrap (y18.2.1 * 2 ^ (min (6 : Int).toNat IntKind.i32.bits)))
 (Option.bind (lk y18.1 y18.2.2.2.1) fun x20 =>
 let v21 := (IntKind.u8.wrap (((BitVec.ofInt IntKind.u8.bits x20 &&& BitVec.ofInt IntKind.u8.bits (63 : Int)).toNat : Int)))
 let v22 := (IntKind.i32.wrap (((BitVec.ofInt IntKind.i32.bits v19 ||| BitVec.ofInt IntKind.i32.bits (IntKind.i32.wrap (v21))).toNat : Int)))
 some (.inr (y18.1, (v22, (y18.2.2.1, ((128 : Int), ((191 : Int), (y18.2.2.2.1, ()))))))))
 else none))))) fun y23 =>
 (match y23 with
 | .inl y23 =>
 some (.inr (.inl (y23.1, (y23.2.1, (y23.2.2.1, ())))))
 | .inr y23 =>
 some (.inl (y23.1, (y23.2.1, (y23.2.2.1, (y23.2.2.2.1, (y23.2.2.2.2.1, ((IntKind.i64.wrap (y23.2.2.2.2.2.1 + (1 : Int))), ())))))))))
 | .inr y9 =>
 some (.inr (.inr (y9.1, (y9.2.1, ()))))))

def utfOne (p0 : List Int) : Option (Unit × (Int × (Int × (Bool × Unit)))) :=
 (Option.bind (lk p0 (0 : Int)) fun x1 =>
 (Option.bind (utfLead x1) fun r2 =>
 (Option.bind (show Option ((Int × (Int × (Bool × Unit))) ⊕ (List Int × (Int × (Int × (Int × (Int × Unit)))))) from
 bif (r2.2.1 == (0 : Int)) then
 some (.inl ((65533 : Int), ((1 : Int), (false, ()))))
 else
 some (.inr (p0, (r2.2.2.1, (r2.2.1, (r2.2.2.2.1, (r2.2.2.2.2.1, ()))))))) fun y4 =>
 (match y4 with
 | .inl y4 =>
 some ((), (y4.1, (y4.2.1, (y4.2.2.1, ()))))
 | .inr y4 =>
 (Option.bind (show Option ((Int × (Int × (Bool × Unit))) ⊕ (Int × (Int × Unit))) from
 (Option.bind (iterN (fun x => utfOne_s7 x.1 x.2.1 x.2.2.1 x.2.2.2.1 x.2.2.2.2.1 x.2.2.2.2.2.1) fuelN (y4.1, (y4.2.1, (y4.2.2.1, (y4.2.2.2.1, (y4.2.2.2.2.1, ((1 : Int), ()))))))) fun y24 =>
 (match y24 with
 | .inl y24 =>
 some (.inl (y24.1, (y24.2.1, (y24.2.2.1, ()))))
 | .inr y24 =>
 some (.inr (y24.1, (y24.2.1, ())))))) fun y25 =>
 (match y25 with
 | .inl y25 =>
 some ((), (y25.1, (y25.2.1, (y25.2.2.1, ()))))
 | .inr y25 =>
 some ((), (y25.1, (y25.2.1, (false, ()))))))))))


def utfOne_c : Ctr := ⟨[.ro (.slice yu8)], [.val yi32, .val yi64, .val .bool], fun v => utfOne v.1⟩
def utfOne_h : Nat → Option LH := fun i => if i = 1040013 then some ⟨⟨[], []⟩, [(.ret, ⟨[(2, yi32), (3, yi64), (4, .bool)], []⟩), (.normal, ⟨[(2, yi32), (5, yi64)], []⟩)]⟩ else if i = 5 then some ⟨⟨[(0, (.slice yu8)), (2, yi32), (5, yi64), (6, yu8), (7, yu8), (8, yi64)], []⟩, [(.ret, ⟨[(2, yi32), (3, yi64), (4, .bool)], []⟩), ((.exit 0), ⟨[(2, yi32), (5, yi64)], []⟩)]⟩ else if i = 1070006 then some ⟨⟨[], []⟩, [(.ret, ⟨[(2, yi32), (3, yi64), (4, .bool)], []⟩), (.normal, ⟨[(0, (.slice yu8)), (2, yi32), (5, yi64), (6, yu8), (7, yu8), (8, yi64)], []⟩)]⟩ else if i = 1090011 then some ⟨⟨[], []⟩, [(.ret, ⟨[(2, yi32), (3, yi64), (4, .bool)], []⟩), (.normal, ⟨[(0, (.slice yu8)), (2, yi32), (5, yi64), (8, yi64)], []⟩)]⟩ else if i = 1090010 then some ⟨⟨[], []⟩, [(.normal, ⟨[(0, (.slice yu8)), (2, yi32), (5, yi64), (8, yi64), (43, .bool)], []⟩)]⟩ else if i = 1070009 then some ⟨⟨[], []⟩, [(.ret, ⟨[(2, yi32), (3, yi64), (4, .bool)], []⟩), (.normal, ⟨[(0, (.slice yu8)), (2, yi32), (5, yi64), (6, yu8), (7, yu8), (8, yi64)], []⟩)]⟩ else if i = 1050007 then some ⟨⟨[], []⟩, [(.normal, ⟨[(0, (.slice yu8)), (2, yi32), (5, yi64), (6, yu8), (7, yu8), (8, yi64)], []⟩), ((.exit 0), ⟨[(2, yi32), (5, yi64)], []⟩)]⟩ else if i = 1020004 then some ⟨⟨[], []⟩, [(.ret, ⟨[(2, yi32), (3, yi64), (4, .bool)], []⟩), (.normal, ⟨[(0, (.slice yu8)), (2, yi32), (5, yi64), (6, yu8), (7, yu8)], []⟩)]⟩ else none
def utfOne_g : List (Nat × Ctr) := [(125, utfLead_c)]
theorem utfOne_eq (v : PDen utfOne_c.ps) : semF tbl (gam utfOne_g) utfOne_h fuelN 56 (bodyOf Tryz.f106) utfOne_c.ps utfOne_c.rs [2, 3, 4] [] v = utfOne_c.g v := by kernel_rfl

/- 79: trema/utf.New -/
def utfNew : Option (Unit × ((List Int × (Int × Bool)) × Unit)) :=
 some ((), ((([] : List Int), ((0 : Int), false)), ()))


def utfNew_c : Ctr := ⟨[], [.own (.bx (.st (.pair (.vec yu8) (.pair yi64 .bool))))], fun v => utfNew⟩
def utfNew_h : Nat → Option LH := fun i => none
def utfNew_g : List (Nat × Ctr) := []
theorem utfNew_eq (v : PDen utfNew_c.ps) : semF tbl (gam utfNew_g) utfNew_h fuelN 3 (bodyOf Tryz.f79) utfNew_c.ps utfNew_c.rs [0] [] v = utfNew_c.g v := by kernel_rfl

/- 80: (*trema/utf.Decoder).Write -/
def utfWrite_s4 (a0 : (Unit × (Int × Bool))) (a5 : List Int) (a6 : List (Int × (Int × Int))) : Option (((Unit × (Int × Bool)) × (List Int × (List (Int × (Int × Int)) × Unit))) ⊕ ((Unit × (Int × Bool)) × (List Int × (List (Int × (Int × Int)) × Unit)))) :=
 (Option.bind (show Option (((Unit × (Int × Bool)) × (List Int × (List (Int × (Int × Int)) × Unit))) ⊕ ((Unit × (Int × Bool)) × (List Int × (List (Int × (Int × Int)) × Unit)))) from
 bif (decide ((a5.length : Int) > (0 : Int))) then
 some (.inl (((), a0.2), (a5, (a6, ()))))
 else
 some (.inr (((), a0.2), (a5, (a6, ()))))) fun y6 =>
 (match y6 with
 | .inl y6 =>
 (Option.bind (utfOne y6.2.1) fun r7 =>
 (Option.bind (show Option (((Unit × (Int × Bool)) × (List Int × (List (Int × (Int × Int)) × Unit))) ⊕ ((Unit × (Int × Bool)) × (List Int × (List (Int × (Int × Int)) × (Int × (Int × Unit)))))) from
 bif r7.2.2.2.1 then
 some (.inl (((), y6.1.2), (y6.2.1, (y6.2.2.1, ()))))
 else
 some (.inr (((), y6.1.2), (y6.2.1, (y6.2.2.1, (r7.2.1, (r7.2.2.1, ()))))))) fun y9 =>
 (match y9 with
 | .inl y9 =>
 some (.inr (((), y9.1.2), (y9.2.1, (y9.2.2.1, ()))))
 | .inr y9 =>
 bif (roomOk (y9.2.2.1.length + [(y9.2.2.2.1, (y9.1.2.1, y9.2.2.2.2.1))].length) 24) then
 bif (inB y9.2.2.2.2.1 (y9.2.1.length : Int) y9.2.1.length) then
 some (.inl (((), ((IntKind.i64.wrap (y9.1.2.1 + y9.2.2.2.2.1)), y9.1.2.2)), ((((y9.2.1).drop y9.2.2.2.2.1.toNat).take ((y9.2.1.length : Int) - y9.2.2.2.2.1).toNat), ((y9.2.2.1 ++ [(y9.2.2.2.1, (y9.1.2.1, y9.2.2.2.2.1))]), ()))))
 else none
 else none)))
 | .inr y6 =>
 some (.inr (((), y6.1.2), (y6.2.1, (y6.2.2.1, ()))))))

def utfWrite (p0 : (List Int × (Int × Bool))) (p1 : List Int) : Option ((List Int × (Int × Bool)) × (List (Int × (Int × Int)) × Unit)) :=
 (Option.bind (show Option (((List Int × (Int × Bool)) × (Unit × Unit)) ⊕ ((List Int × (Int × Bool)) × (List Int × Unit))) from
 bif p0.2.2 then
 some (.inl (p0, ((), ())))
 else
 some (.inr (p0, (p1, ())))) fun y1 =>
 (match y1 with
 | .inl y1 =>
 some (y1.1, (([] : List (Int × (Int × Int))), ()))
 | .inr y1 =>
 bif (roomOk (y1.1.1.length + y1.2.1.length) 1) then
 (Option.bind (show Option ((Unit × (Int × Bool)) × (List Int × (List (Int × (Int × Int)) × Unit))) from
 (Option.bind (iterN (fun x => utfWrite_s4 x.1 x.2.1 x.2.2.1) fuelN (((), y1.1.2), ((y1.1.1 ++ y1.2.1), (([] : List (Int × (Int × Int))), ())))) fun y10 =>
 some (((), y10.1.2), (y10.2.1, (y10.2.2.1, ()))))) fun y11 =>
 bif (roomOk y11.2.1.length 1) then
 some ((y11.2.1, y11.1.2), (y11.2.2.1, ()))
 else none)
 else none))


def utfWrite_c : Ctr := ⟨[.mu (.bx (.st (.pair (.vec yu8) (.pair yi64 .bool)))), .ro (.slice yu8)], [.own (.vec y3)], fun v => utfWrite v.1 v.2.1⟩
def utfWrite_h : Nat → Option LH := fun i => if i = 1050011 then some ⟨⟨[], []⟩, [(.normal, ⟨[(0, (.bx (.st (.pair .lost (.pair yi64 .bool))))), (5, (.vec yu8)), (6, (.vec y3))], []⟩)]⟩ else if i = 5 then some ⟨⟨[(0, (.bx (.st (.pair .lost (.pair yi64 .bool))))), (5, (.vec yu8)), (6, (.vec y3))], []⟩, [((.exit 0), ⟨[(0, (.bx (.st (.pair .lost (.pair yi64 .bool))))), (5, (.vec yu8)), (6, (.vec y3))], []⟩)]⟩ else if i = 1070008 then some ⟨⟨[], []⟩, [((.exit 0), ⟨[(0, (.bx (.st (.pair .lost (.pair yi64 .bool))))), (5, (.vec yu8)), (6, (.vec y3))], []⟩), (.normal, ⟨[(0, (.bx (.st (.pair .lost (.pair yi64 .bool))))), (5, (.vec yu8)), (6, (.vec y3)), (7, yi32), (8, yi64)], []⟩)]⟩ else if i = 1050006 then some ⟨⟨[], []⟩, [(.normal, ⟨[(0, (.bx (.st (.pair .lost (.pair yi64 .bool))))), (5, (.vec yu8)), (6, (.vec y3))], []⟩), ((.exit 0), ⟨[(0, (.bx (.st (.pair .lost (.pair yi64 .bool))))), (5, (.vec yu8)), (6, (.vec y3))], []⟩)]⟩ else if i = 1010003 then some ⟨⟨[], []⟩, [(.ret, ⟨[(0, (.bx (.st (.pair (.vec yu8) (.pair yi64 .bool))))), (4, .nils)], []⟩), (.normal, ⟨[(0, (.bx (.st (.pair (.vec yu8) (.pair yi64 .bool))))), (1, (.slice yu8))], []⟩)]⟩ else none
def utfWrite_g : List (Nat × Ctr) := [(106, utfOne_c)]
theorem utfWrite_eq (v : PDen utfWrite_c.ps) : semF tbl (gam utfWrite_g) utfWrite_h fuelN 61 (bodyOf Tryz.f80) utfWrite_c.ps utfWrite_c.rs [4] [] v = utfWrite_c.g v := by kernel_rfl

/- 81: (*trema/utf.Decoder).Close -/
def utfClose (p0 : (List Int × (Int × Bool))) : Option ((List Int × (Int × Bool)) × (List (Int × (Int × Int)) × Unit)) :=
 (Option.bind (show Option (((List Int × (Int × Bool)) × (Unit × Unit)) ⊕ ((List Int × (Int × Bool)) × Unit)) from
 bif p0.2.2 then
 some (.inl (p0, ((), ())))
 else
 some (.inr (p0, ()))) fun y2 =>
 (match y2 with
 | .inl y2 =>
 some (y2.1, (([] : List (Int × (Int × Int))), ()))
 | .inr y2 =>
 (Option.bind (show Option (((Unit × (Int × Bool)) × (Unit × Unit)) ⊕ ((Unit × (Int × Bool)) × (Int × Unit))) from
 bif ((y2.1.1.length : Int) == (0 : Int)) then
 some (.inl (((), (y2.1.2.1, true)), ((), ())))
 else
 some (.inr (((), (y2.1.2.1, true)), ((y2.1.1.length : Int), ())))) fun y4 =>
 (match y4 with
 | .inl y4 =>
 some ((([] : List Int), y4.1.2), (([] : List (Int × (Int × Int))), ()))
 | .inr y4 =>
 some ((([] : List Int), y4.1.2), ([((65533 : Int), (y4.1.2.1, y4.2.1))], ()))))))


def utfClose_c : Ctr := ⟨[.mu (.bx (.st (.pair (.vec yu8) (.pair yi64 .bool))))], [.val (.slice y3)], fun v => utfClose v.1⟩
def utfClose_h : Nat → Option LH := fun i => if i = 1060008 then some ⟨⟨[], []⟩, [(.ret, ⟨[(0, (.bx (.st (.pair .nils (.pair yi64 .bool))))), (2, .nils)], []⟩), (.normal, ⟨[(0, (.bx (.st (.pair .nils (.pair yi64 .bool))))), (3, yi64)], []⟩)]⟩ else if i = 1010003 then some ⟨⟨[], []⟩, [(.ret, ⟨[(0, (.bx (.st (.pair (.vec yu8) (.pair yi64 .bool))))), (2, .nils)], []⟩), (.normal, ⟨[(0, (.bx (.st (.pair (.vec yu8) (.pair yi64 .bool)))))], []⟩)]⟩ else none
def utfClose_g : List (Nat × Ctr) := []
theorem utfClose_eq (v : PDen utfClose_c.ps) : semF tbl (gam utfClose_g) utfClose_h fuelN 32 (bodyOf Tryz.f81) utfClose_c.ps utfClose_c.rs [2] [] v = utfClose_c.g v := by kernel_rfl

/- 63: trema/utf.Decode -/
def utfDecode (p0 : List Int) : Option (Unit × (List (Int × (Int × Int)) × Unit)) :=
 (Option.bind (utfNew) fun r1 =>
 (Option.bind (utfWrite r1.2.1 p0) fun r2 =>
 (Option.bind (utfClose r2.1) fun r3 =>
 bif (roomOk (r2.2.1.length + r3.2.1.length) 24) then
 some ((), ((r2.2.1 ++ r3.2.1), ()))
 else none)))


def utfDecode_c : Ctr := ⟨[.ro (.slice yu8)], [.val (.slice y3)], fun v => utfDecode v.1⟩
def utfDecode_h : Nat → Option LH := fun i => none
def utfDecode_g : List (Nat × Ctr) := [(79, utfNew_c), (80, utfWrite_c), (81, utfClose_c)]
theorem utfDecode_eq (v : PDen utfDecode_c.ps) : semF tbl (gam utfDecode_g) utfDecode_h fuelN 11 (bodyOf Tryz.f63) utfDecode_c.ps utfDecode_c.rs [2] [] v = utfDecode_c.g v := by kernel_rfl

/- 64: trema/utf.Encode -/
def utfEncode_s2 (a3 : List Int) (a6 : List Int) (a7 : Int) (a8 : Int) : Option ((List Int × (List Int × (Int × (Int × Unit)))) ⊕ (List Int × Unit)) :=
 bif (decide (a8 < a7)) then
 (Option.bind (lk a6 a8) fun x3 =>
 (Option.bind (show Option (List Int × (Int × (List Int × (Int × (Int × Unit))))) from
 (Option.bind (utfValid x3) fun r5 =>
 bif (!r5.2.1) then
 some (a3, ((65533 : Int), (a6, (a7, (a8, ())))))
 else
 some (a3, (x3, (a6, (a7, (a8, ()))))))) fun y6 =>
 bif (decide (y6.2.1 < (128 : Int))) then
 bif (roomOk (y6.1.length + [(IntKind.u8.wrap (y6.2.1))].length) 1) then
 some (.inl ((y6.1 ++ [(IntKind.u8.wrap (y6.2.1))]), (y6.2.2.1, (y6.2.2.2.1, ((IntKind.i64.wrap (y6.2.2.2.2.1 + (1 : Int))), ())))))
 else none
 else
 bif (decide (y6.2.1 < (2048 : Int))) then
 bif (decide (0 ≤ (6 : Int))) then
 let v7 := (Int.fdiv y6.2.1 (2 ^ (min (6 : Int).toNat IntKind.i32.bits)))
 let v8 := (IntKind.u8.wrap (((BitVec.ofInt IntKind.u8.bits (192 : Int) ||| BitVec.ofInt IntKind.u8.bits (IntKind.u8.wrap (v7))).toNat : Int)))
 let v9 := (IntKind.i32.wrap (((BitVec.ofInt IntKind.i32.bits y6.2.1 &&& BitVec.ofInt IntKind.i32.bits (63 : Int)).toNat : Int)))
 let v10 := (IntKind.u8.wrap (((BitVec.ofInt IntKind.u8.bits (128 : Int) ||| BitVec.ofInt IntKind.u8.bits (IntKind.u8.wrap (v9))).toNat : Int)))
 bif (roomOk (y6.1.length + [v8, v10].length) 1) then
 some (.inl ((y6.1 ++ [v8, v10]), (y6.2.2.1, (y6.2.2.2.1, ((IntKind.i64.wrap (y6.2.2.2.2.1 + (1 : Int))), ())))))
 else none
 else none
 else
 bif (decide (y6.2.1 < (65536 : Int))) then
 bif (decide (0 ≤ (12 : Int))) then
 let v11 := (Int.fdiv y6.2.1 (2 ^ (min (12 : Int).toNat IntKind.i32.bits)))
 let v12 := (IntKind.u8.wrap (((BitVec.ofInt IntKind.u8.bits (224 : Int) ||| BitVec.ofInt IntKind.u8.bits (IntKind.u8.wrap (v11))).toNat : Int)))
 bif (decide (0 ≤ (6 : Int))) then
 let v13 := (Int.fdiv y6.2.1 (2 ^ (min (6 : Int).toNat IntKind.i32.bits)))
 let v14 := (IntKind.i32.wrap (((BitVec.ofInt IntKind.i32.bits v13 &&& BitVec.ofInt IntKind.i32.bits (63 : Int)).toNat : Int)))
 let v15 := (IntKind.u8.wrap (((BitVec.ofInt IntKind.u8.bits (128 : Int) ||| BitVec.ofInt IntKind.u8.bits (IntKind.u8.wrap (v14))).toNat : Int)))
 let v16 := (IntKind.i32.wrap (((BitVec.ofInt IntKind.i32.bits y6.2.1 &&& BitVec.ofInt IntKind.i32.bits (63 : Int)).toNat : Int)))
 let v17 := (IntKind.u8.wrap (((BitVec.ofInt IntKind.u8.bits (128 : Int) ||| BitVec.ofInt IntKind.u8.bits (IntKind.u8.wrap (v16))).toNat : Int)))
 bif (roomOk (y6.1.length + [v12, v15, v17].length) 1) then
 some (.inl ((y6.1 ++ [v12, v15, v17]), (y6.2.2.1, (y6.2.2.2.1, ((IntKind.i64.wrap (y6.2.2.2.2.1 + (1 : Int))), ())))))
 else none
 else none
 else none
 else
 bif (decide (0 ≤ (18 : Int))) then
 let v18 := (Int.fdiv y6.2.1 (2 ^ (min (18 : Int).toNat IntKind.i32.bits)))
 let v19 := (IntKind.u8.wrap (((BitVec.ofInt IntKind.u8.bits (240 : Int) ||| BitVec.ofInt IntKind.u8.bits (IntKind.u8.wrap (v18))).toNat : Int)))
 bif (decide (0 ≤ (12 : Int))) then
 let v20 := (Int.fdiv y6.2.1 (2 ^ (min (12 : Int).toNat IntKind.i32.bits)))
 let v21 := (IntKind.i32.wrap (((BitVec.ofInt IntKind.i32.bits v20 &&& BitVec.ofInt IntKind.i32.bits (63 : Int)).toNat : Int)))
 let v22 := (IntKind.u8.wrap (((BitVec.ofInt IntKind.u8.bits (128 : Int) ||| BitVec.ofInt IntKind.u8.bits (IntKind.u8.wrap (v21))).toNat : Int)))
 bif (decide (0 ≤ (6 : Int))) then
 let v23 := (Int.fdiv y6.2.1 (2 ^ (min (6 : Int).toNat IntKind.i32.bits)))
 let v24 := (IntKind.i32.wrap (((BitVec.ofInt IntKind.i32.bits v23 &&& BitVec.ofInt IntKind.i32.bits (63 : Int)).toNat : Int)))
 let v25 := (IntKind.u8.wrap (((BitVec.ofInt IntKind.u8.bits (128 : Int) ||| BitVec.ofInt IntKind.u8.bits (IntKind.u8.wrap (v24))).toNat : Int)))
 let v26 := (IntKind.i32.wrap (((BitVec.ofInt IntKind.i32.bits y6.2.1 &&& BitVec.ofInt IntKind.i32.bits (63 : Int)).toNat : Int)))
 let v27 := (IntKind.u8.wrap (((BitVec.ofInt IntKind.u8.bits (128 : Int) ||| BitVec.ofInt IntKind.u8.bits (IntKind.u8.wrap (v26))).toNat : Int)))
 bif (roomOk (y6.1.length + [v19, v22, v25, v27].length) 1) then
 some (.inl ((y6.1 ++ [v19, v22, v25, v27]), (y6.2.2.1, (y6.2.2.2.1, ((IntKind.i64.wrap (y6.2.2.2.2.1 + (1 : Int))), ())))))
 else none
 else none
 else none
 else none))
 else
 some (.inr (a3, ()))

def utfEncode (p0 : List Int) : Option (Unit × (List Int × Unit)) :=
 (Option.bind (iterN (fun x => utfEncode_s2 x.1 x.2.1 x.2.2.1 x.2.2.2.1) fuelN (([] : List Int), (p0, ((p0.length : Int), ((0 : Int), ()))))) fun y28 =>
 some ((), (y28.1, ())))


def utfEncode_c : Ctr := ⟨[.ro (.slice yi32)], [.own (.vec yu8)], fun v => utfEncode v.1⟩
def utfEncode_h : Nat → Option LH := fun i => if i = 3 then some ⟨⟨[(3, (.vec yu8)), (6, (.slice yi32)), (7, yi64), (8, yi64)], []⟩, [((.exit 0), ⟨[(3, (.vec yu8))], []⟩)]⟩ else if i = 1050008 then some ⟨⟨[], []⟩, [(.normal, ⟨[(3, (.vec yu8)), (5, yi32), (6, (.slice yi32)), (7, yi64), (8, yi64)], []⟩)]⟩ else none
def utfEncode_g : List (Nat × Ctr) := [(82, utfValid_c)]
theorem utfEncode_eq (v : PDen utfEncode_c.ps) : semF tbl (gam utfEncode_g) utfEncode_h fuelN 79 (bodyOf Tryz.f64) utfEncode_c.ps utfEncode_c.rs [2] [] v = utfEncode_c.g v := by kernel_rfl

/- 41: trema/segset.read -/
def sRead_s6 (a0 : List UInt8) (a5 : List (Int × (Int × Int))) (a6 : List Int) (a15 : List (Int × (Int × Int))) (a16 : Int) (a17 : Int) : Option ((List UInt8 × (List (Int × (Int × Int)) × (List Int × (List (Int × (Int × Int)) × (Int × (Int × Unit)))))) ⊕ (List UInt8 × (List (Int × (Int × Int)) × (List Int × Unit)))) :=
 bif (decide (a17 < a16)) then
 (Option.bind (lk a15 a17) fun x7 =>
 bif (roomOk (a6.length + [x7.1].length) 4) then
 some (.inl (a0, (a5, ((a6 ++ [x7.1]), (a15, (a16, ((IntKind.i64.wrap (a17 + (1 : Int))), ())))))))
 else none)
 else
 some (.inr (a0, (a5, (a6, ()))))

def sRead (p0 : List UInt8) : Option (Unit × (Int × (Int × (Bool × Unit)))) :=
 (Option.bind (utfDecode (u8s p0)) fun r1 =>
 (Option.bind (show Option ((Int × (Int × (Bool × Unit))) ⊕ (List UInt8 × (List (Int × (Int × Int)) × Unit))) from
 bif ((r1.2.1.length : Int) == (0 : Int)) then
 some (.inl ((0 : Int), ((0 : Int), (true, ()))))
 else
 some (.inr (p0, (r1.2.1, ())))) fun y3 =>
 (match y3 with
 | .inl y3 =>
 some ((), (y3.1, (y3.2.1, (y3.2.2.1, ()))))
 | .inr y3 =>
 (Option.bind (show Option (List UInt8 × (List (Int × (Int × Int)) × (List Int × Unit))) from
 (Option.bind (iterN (fun x => sRead_s6 x.1 x.2.1 x.2.2.1 x.2.2.2.1 x.2.2.2.2.1 x.2.2.2.2.2.1) fuelN (y3.1, (y3.2.1, (([] : List Int), (y3.2.1, ((y3.2.1.length : Int), ((0 : Int), ()))))))) fun y8 =>
 some (y8.1, (y8.2.1, (y8.2.2.1, ()))))) fun y9 =>
 (Option.bind (lk y9.2.1 (0 : Int)) fun x10 =>
 (Option.bind (utfEncode y9.2.2.1) fun r11 =>
 some ((), (x10.1, ((y9.2.1.length : Int), (((s8u r11.2.1) == y9.1), ()))))))))))


def sRead_c : Ctr := ⟨[.ro .str], [.val yi32, .val yi64, .val .bool], fun v => sRead v.1⟩
def sRead_h : Nat → Option LH := fun i => if i = 1050010 then some ⟨⟨[], []⟩, [(.normal, ⟨[(0, .str), (5, (.slice y3)), (6, (.vec yi32))], []⟩)]⟩ else if i = 6 then some ⟨⟨[(0, .str), (5, (.slice y3)), (6, (.vec yi32)), (15, (.slice y3)), (16, yi64), (17, yi64)], []⟩, [((.exit 0), ⟨[(0, .str), (5, (.slice y3)), (6, (.vec yi32))], []⟩)]⟩ else if i = 1020004 then some ⟨⟨[], []⟩, [(.ret, ⟨[(2, yi32), (3, yi64), (4, .bool)], []⟩), (.normal, ⟨[(0, .str), (5, (.slice y3))], []⟩)]⟩ else none
def sRead_g : List (Nat × Ctr) := [(63, utfDecode_c), (64, utfEncode_c)]
theorem sRead_eq (v : PDen sRead_c.ps) : semF tbl (gam sRead_g) sRead_h fuelN 38 (bodyOf Tryz.f41) sRead_c.ps sRead_c.rs [2, 3, 4] [] v = sRead_c.g v := by kernel_rfl

/- 32: trema/segset.odd -/
def sOdd_s3 (a3 : List (List UInt8)) (a9 : List (List UInt8)) (a10 : Int) (a11 : Int) : Option ((List (List UInt8) × (List (List UInt8) × (Int × (Int × Unit)))) ⊕ (List (List UInt8) × Unit)) :=
 bif (decide (a11 < a10)) then
 (Option.bind (lk a9 a11) fun x4 =>
 (Option.bind (sRead x4) fun r5 =>
 (Option.bind (show Option (List (List UInt8) × (List UInt8 × (List (List UInt8) × (Int × (Int × (Bool × Unit)))))) from
 bif r5.2.2.2.1 then
 some (a3, (x4, (a9, (a10, (a11, ((decide (r5.2.2.1 > (1 : Int))), ()))))))
 else
 some (a3, (x4, (a9, (a10, (a11, (false, ()))))))) fun y7 =>
 bif y7.2.2.2.2.2.1 then
 bif (roomOk (y7.1.length + [y7.2.1].length) 16) then
 some (.inl ((y7.1 ++ [y7.2.1]), (y7.2.2.1, (y7.2.2.2.1, ((IntKind.i64.wrap (y7.2.2.2.2.1 + (1 : Int))), ())))))
 else none
 else
 some (.inl (y7.1, (y7.2.2.1, (y7.2.2.2.1, ((IntKind.i64.wrap (y7.2.2.2.2.1 + (1 : Int))), ()))))))))
 else
 some (.inr (a3, ()))

def sOdd (p0 : List (List UInt8)) : Option (Unit × (List (List UInt8) × Unit)) :=
 (Option.bind (show Option (List (List UInt8) × Unit) from
 (Option.bind (iterN (fun x => sOdd_s3 x.1 x.2.1 x.2.2.1 x.2.2.2.1) fuelN (([] : List (List UInt8)), (p0, ((p0.length : Int), ((0 : Int), ()))))) fun y8 =>
 some (y8.1, ()))) fun y9 =>
 (Option.bind (sortS y9.1) fun r10 =>
 (Option.bind (compactS r10.1) fun r11 =>
 some ((), (r11.2.1, ())))))


def sOdd_c : Ctr := ⟨[.ro (.slice .str)], [.own (.vec .str)], fun v => sOdd v.1⟩
def sOdd_h : Nat → Option LH := fun i => if i = 1020009 then some ⟨⟨[], []⟩, [(.normal, ⟨[(3, (.vec .str))], []⟩)]⟩ else if i = 3 then some ⟨⟨[(3, (.vec .str)), (9, (.slice .str)), (10, yi64), (11, yi64)], []⟩, [((.exit 0), ⟨[(3, (.vec .str))], []⟩)]⟩ else if i = 1060007 then some ⟨⟨[], []⟩, [(.normal, ⟨[(3, (.vec .str)), (5, .str), (9, (.slice .str)), (10, yi64), (11, yi64), (25, .bool)], []⟩)]⟩ else none
def sOdd_g : List (Nat × Ctr) := [(54, sortS_c), (55, compactS_c), (41, sRead_c)]
theorem sOdd_eq (v : PDen sOdd_c.ps) : semF tbl (gam sOdd_g) sOdd_h fuelN 35 (bodyOf Tryz.f32) sOdd_c.ps sOdd_c.rs [2] [] v = sOdd_c.g v := by kernel_rfl

/- 62: slices.Equal[[]string,string] -/
def slEqualS_s4 (a0 : List (List UInt8)) (a1 : List (List UInt8)) (a12 : Int) (a13 : Int) : Option ((List (List UInt8) × (List (List UInt8) × (Int × (Int × Unit)))) ⊕ ((Bool × Unit) ⊕ Unit)) :=
 bif (decide (a13 < a12)) then
 (Option.bind (lk a0 a13) fun x5 =>
 (Option.bind (lk a1 a13) fun x6 =>
 bif (!(x5 == x6)) then
 some (.inr (.inl (false, ())))
 else
 some (.inl (a0, (a1, (a12, ((IntKind.i64.wrap (a13 + (1 : Int))), ())))))))
 else
 some (.inr (.inr ()))

def slEqualS (p0 : List (List UInt8)) (p1 : List (List UInt8)) : Option (Unit × (Bool × Unit)) :=
 (Option.bind (show Option ((Bool × Unit) ⊕ (List (List UInt8) × (List (List UInt8) × Unit))) from
 bif ((p0.length : Int) != (p1.length : Int)) then
 some (.inl (false, ()))
 else
 some (.inr (p0, (p1, ())))) fun y2 =>
 (match y2 with
 | .inl y2 =>
 some ((), (y2.1, ()))
 | .inr y2 =>
 (Option.bind (iterN (fun x => slEqualS_s4 x.1 x.2.1 x.2.2.1 x.2.2.2.1) fuelN (y2.1, (y2.2.1, ((y2.1.length : Int), ((0 : Int), ()))))) fun y7 =>
 (match y7 with
 | .inl y7 =>
 some ((), (y7.1, ()))
 | .inr y7 =>
 some ((), (true, ()))))))


def slEqualS_c : Ctr := ⟨[.ro (.slice .str), .ro (.slice .str)], [.val .bool], fun v => slEqualS v.1 v.2.1⟩
def slEqualS_h : Nat → Option LH := fun i => if i = 4 then some ⟨⟨[(0, (.slice .str)), (1, (.slice .str)), (12, yi64), (13, yi64)], []⟩, [(.ret, ⟨[(4, .bool)], []⟩), ((.exit 0), ⟨[], []⟩)]⟩ else if i = 1010003 then some ⟨⟨[], []⟩, [(.ret, ⟨[(4, .bool)], []⟩), (.normal, ⟨[(0, (.slice .str)), (1, (.slice .str))], []⟩)]⟩ else none
def slEqualS_g : List (Nat × Ctr) := []
theorem slEqualS_eq (v : PDen slEqualS_c.ps) : semF tbl (gam slEqualS_g) slEqualS_h fuelN 26 (bodyOf Tryz.f62) slEqualS_c.ps slEqualS_c.rs [4] [] v = slEqualS_c.g v := by kernel_rfl

/- 9: trema/segset.Norm -/
def sNorm (p0 : (List (Int × Int) × (List (Int × Int) × List (List UInt8)))) : Option (Unit × ((List (Int × Int) × (List (Int × Int) × List (List UInt8))) × Unit)) :=
 (Option.bind (rNorm p0.1) fun r1 =>
 (Option.bind (rNorm p0.2.1) fun r2 =>
 (Option.bind (sOdd p0.2.2) fun r3 =>
 some ((), ((r1.2.1, (r2.2.1, r3.2.1)), ())))))


def sNorm_c : Ctr := ⟨[.ro y2], [.own y1], fun v => sNorm v.1⟩
def sNorm_h : Nat → Option LH := fun i => none
def sNorm_g : List (Nat × Ctr) := [(31, rNorm_c), (32, sOdd_c)]
theorem sNorm_eq (v : PDen sNorm_c.ps) : semF tbl (gam sNorm_g) sNorm_h fuelN 13 (bodyOf Tryz.f9) sNorm_c.ps sNorm_c.rs [13] [(2, 25)] v = sNorm_c.g v := by kernel_rfl

/- 40: trema/segset.same -/
def sSame (p0 : (List (Int × Int) × (List (Int × Int) × List (List UInt8)))) (p1 : (List (Int × Int) × (List (Int × Int) × List (List UInt8)))) : Option (Unit × (Bool × Unit)) :=
 (Option.bind (slEqual p0.1 p1.1) fun r1 =>
 bif r1.2.1 then
 (Option.bind (slEqual p0.2.1 p1.2.1) fun r2 =>
 bif r2.2.1 then
 (Option.bind (slEqualS p0.2.2 p1.2.2) fun r3 =>
 some ((), (r3.2.1, ())))
 else
 some ((), (false, ())))
 else
 some ((), (false, ())))


def sSame_c : Ctr := ⟨[.ro y2, .ro y2], [.val .bool], fun v => sSame v.1 v.2.1⟩
def sSame_h : Nat → Option LH := fun i => none
def sSame_g : List (Nat × Ctr) := [(61, slEqual_c), (62, slEqualS_c)]
theorem sSame_eq (v : PDen sSame_c.ps) : semF tbl (gam sSame_g) sSame_h fuelN 24 (bodyOf Tryz.f40) sSame_c.ps sSame_c.rs [4] [] v = sSame_c.g v := by kernel_rfl

/- 14: trema/segset.May -/
def sMay (p0 : (List (Int × Int) × (List (Int × Int) × List (List UInt8)))) : Option (Unit × (Bool × Unit)) :=
 (Option.bind (sNorm p0) fun r1 =>
 (Option.bind (sSame r1.2.1 p0) fun r2 =>
 some ((), (r2.2.1, ()))))


def sMay_c : Ctr := ⟨[.ro y2], [.val .bool], fun v => sMay v.1⟩
def sMay_h : Nat → Option LH := fun i => none
def sMay_g : List (Nat × Ctr) := [(9, sNorm_c), (40, sSame_c)]
theorem sMay_eq (v : PDen sMay_c.ps) : semF tbl (gam sMay_g) sMay_h fuelN 7 (bodyOf Tryz.f14) sMay_c.ps sMay_c.rs [2] [] v = sMay_c.g v := by kernel_rfl

/- 67: slices.Index[[]string,string] -/
def indexS_s2 (a0 : List (List UInt8)) (a1 : List UInt8) (a7 : Int) (a8 : Int) : Option ((List (List UInt8) × (List UInt8 × (Int × (Int × Unit)))) ⊕ ((Int × Unit) ⊕ Unit)) :=
 bif (decide (a8 < a7)) then
 (Option.bind (lk a0 a8) fun x3 =>
 bif (a1 == x3) then
 some (.inr (.inl (a8, ())))
 else
 some (.inl (a0, (a1, (a7, ((IntKind.i64.wrap (a8 + (1 : Int))), ()))))))
 else
 some (.inr (.inr ()))

def indexS (p0 : List (List UInt8)) (p1 : List UInt8) : Option (Unit × (Int × Unit)) :=
 (Option.bind (iterN (fun x => indexS_s2 x.1 x.2.1 x.2.2.1 x.2.2.2.1) fuelN (p0, (p1, ((p0.length : Int), ((0 : Int), ()))))) fun y4 =>
 (match y4 with
 | .inl y4 =>
 some ((), (y4.1, ()))
 | .inr y4 =>
 some ((), ((-1 : Int), ()))))


def indexS_c : Ctr := ⟨[.ro (.slice .str), .ro .str], [.val yi64], fun v => indexS v.1 v.2.1⟩
def indexS_h : Nat → Option LH := fun i => if i = 2 then some ⟨⟨[(0, (.slice .str)), (1, .str), (7, yi64), (8, yi64)], []⟩, [(.ret, ⟨[(4, yi64)], []⟩), ((.exit 0), ⟨[], []⟩)]⟩ else none
def indexS_g : List (Nat × Ctr) := []
theorem indexS_eq (v : PDen indexS_c.ps) : semF tbl (gam indexS_g) indexS_h fuelN 19 (bodyOf Tryz.f67) indexS_c.ps indexS_c.rs [4] [] v = indexS_c.g v := by kernel_rfl

/- 43: slices.Contains[[]string,string] -/
def containsS (p0 : List (List UInt8)) (p1 : List UInt8) : Option (Unit × (Bool × Unit)) :=
 (Option.bind (indexS p0 p1) fun r1 =>
 some ((), ((decide (r1.2.1 ≥ (0 : Int))), ())))


def containsS_c : Ctr := ⟨[.ro (.slice .str), .ro .str], [.val .bool], fun v => containsS v.1 v.2.1⟩
def containsS_h : Nat → Option LH := fun i => none
def containsS_g : List (Nat × Ctr) := [(67, indexS_c)]
theorem containsS_eq (v : PDen containsS_c.ps) : semF tbl (gam containsS_g) containsS_h fuelN 9 (bodyOf Tryz.f43) containsS_c.ps containsS_c.rs [4] [] v = containsS_c.g v := by kernel_rfl

/- 15: trema/segset.Has -/
def sHas (p0 : (List (Int × Int) × (List (Int × Int) × List (List UInt8)))) (p1 : List UInt8) : Option (Unit × (Bool × Unit)) :=
 (Option.bind (sRead p1) fun r1 =>
 (Option.bind (show Option ((Bool × Unit) ⊕ (List UInt8 × ((List (Int × Int) × (List (Int × Int) × List (List UInt8))) × (Int × Unit)))) from
 bif (r1.2.2.1 == (0 : Int)) then
 some (.inl (false, ()))
 else
 bif (r1.2.2.1 == (1 : Int)) then
 (Option.bind (rHas p0.1 r1.2.1) fun r3 =>
 some (.inl (r3.2.1, ())))
 else
 some (.inr (p1, (p0, (r1.2.1, ()))))) fun y4 =>
 (match y4 with
 | .inl y4 =>
 some ((), (y4.1, ()))
 | .inr y4 =>
 (Option.bind (rHas y4.2.1.2.1 y4.2.2.1) fun r5 =>
 (Option.bind (containsS y4.2.1.2.2 y4.1) fun r6 =>
 some ((), ((!(r5.2.1 == r6.2.1)), ())))))))


def sHas_c : Ctr := ⟨[.ro y2, .ro .str], [.val .bool], fun v => sHas v.1 v.2.1⟩
def sHas_h : Nat → Option LH := fun i => if i = 1020007 then some ⟨⟨[], []⟩, [(.ret, ⟨[(4, .bool)], []⟩), (.normal, ⟨[(1, .str), (2, (.bx y2)), (5, yi32)], []⟩)]⟩ else none
def sHas_g : List (Nat × Ctr) := [(42, rHas_c), (41, sRead_c), (43, containsS_c)]
theorem sHas_eq (v : PDen sHas_c.ps) : semF tbl (gam sHas_g) sHas_h fuelN 32 (bodyOf Tryz.f15) sHas_c.ps sHas_c.rs [4] [] v = sHas_c.g v := by kernel_rfl

/- 27: trema/segset.Of -/
def sOf (p0 : List UInt8) : Option (Unit × ((List (Int × Int) × (List (Int × Int) × List (List UInt8))) × Unit)) :=
 (Option.bind (sRead p0) fun r1 =>
 (Option.bind (show Option (((List (Int × Int) × (Unit × Unit)) × Unit) ⊕ (List UInt8 × ((Unit × (Unit × Unit)) × Unit))) from
 (Option.bind (show Option (List UInt8 × ((Unit × (Unit × Unit)) × (Int × (Int × (Bool × Unit))))) from
 bif (r1.2.2.1 == (0 : Int)) then
 some (p0, (((), ((), ())), (r1.2.1, (r1.2.2.1, (true, ())))))
 else
 some (p0, (((), ((), ())), (r1.2.1, (r1.2.2.1, ((!r1.2.2.2.1), ())))))) fun y4 =>
 bif y4.2.2.2.2.1 then
 some (.inl ((([] : List (Int × Int)), ((), ())), ()))
 else
 bif (y4.2.2.2.1 == (1 : Int)) then
 some (.inl (([(y4.2.2.1, y4.2.2.1)], ((), ())), ()))
 else
 some (.inr (y4.1, (((), ((), ())), ()))))) fun y5 =>
 (match y5 with
 | .inl y5 =>
 some ((), ((y5.1.1, (([] : List (Int × Int)), ([] : List (List UInt8)))), ()))
 | .inr y5 =>
 some ((), ((([] : List (Int × Int)), (([] : List (Int × Int)), [y5.1])), ())))))


def sOf_c : Ctr := ⟨[.ro .str], [.own y1], fun v => sOf v.1⟩
def sOf_h : Nat → Option LH := fun i => if i = 1020006 then some ⟨⟨[], []⟩, [(.ret, ⟨[(2, (.bx (.st (.pair (.vec y0) (.pair .nils .nils)))))], []⟩), (.normal, ⟨[(0, .str), (2, (.bx (.st (.pair .nils (.pair .nils .nils)))))], []⟩)]⟩ else if i = 1020003 then some ⟨⟨[], []⟩, [(.normal, ⟨[(0, .str), (2, (.bx (.st (.pair .nils (.pair .nils .nils))))), (3, yi32), (4, yi64), (12, .bool)], []⟩)]⟩ else none
def sOf_g : List (Nat × Ctr) := [(41, sRead_c)]
theorem sOf_eq (v : PDen sOf_c.ps) : semF tbl (gam sOf_g) sOf_h fuelN 31 (bodyOf Tryz.f27) sOf_c.ps sOf_c.rs [31] [(2, 25)] v = sOf_c.g v := by kernel_rfl

/- 23: trema/segset.First -/
def sFirst (p0 : List (Int × Int)) : Option (Unit × ((List (Int × Int) × (List (Int × Int) × List (List UInt8))) × Unit)) :=
 (Option.bind (rNorm p0) fun r1 =>
 (Option.bind (rNorm p0) fun r2 =>
 some ((), ((r1.2.1, (r2.2.1, ([] : List (List UInt8)))), ()))))


def sFirst_c : Ctr := ⟨[.ro (.slice y0)], [.own y1], fun v => sFirst v.1⟩
def sFirst_h : Nat → Option LH := fun i => none
def sFirst_g : List (Nat × Ctr) := [(31, rNorm_c)]
theorem sFirst_eq (v : PDen sFirst_c.ps) : semF tbl (gam sFirst_g) sFirst_h fuelN 8 (bodyOf Tryz.f23) sFirst_c.ps sFirst_c.rs [8] [(2, 25)] v = sFirst_c.g v := by kernel_rfl

/- 28: trema/segset.Ones -/
def sOnes (p0 : List (Int × Int)) : Option (Unit × ((List (Int × Int) × (List (Int × Int) × List (List UInt8))) × Unit)) :=
 (Option.bind (rNorm p0) fun r1 =>
 some ((), ((r1.2.1, (([] : List (Int × Int)), ([] : List (List UInt8)))), ())))


def sOnes_c : Ctr := ⟨[.ro (.slice y0)], [.own y1], fun v => sOnes v.1⟩
def sOnes_h : Nat → Option LH := fun i => none
def sOnes_g : List (Nat × Ctr) := [(31, rNorm_c)]
theorem sOnes_eq (v : PDen sOnes_c.ps) : semF tbl (gam sOnes_g) sOnes_h fuelN 6 (bodyOf Tryz.f28) sOnes_c.ps sOnes_c.rs [6] [(2, 25)] v = sOnes_c.g v := by kernel_rfl

/- 21: trema/segset.All -/
def sAll : Option (Unit × ((List (Int × Int) × (List (Int × Int) × List (List UInt8))) × Unit)) :=
 (Option.bind (sFirst [((0 : Int), (1114111 : Int))]) fun r1 =>
 some ((), (r1.2.1, ())))


def sAll_c : Ctr := ⟨[], [.own y1], fun v => sAll⟩
def sAll_h : Nat → Option LH := fun i => none
def sAll_g : List (Nat × Ctr) := [(23, sFirst_c)]
theorem sAll_eq (v : PDen sAll_c.ps) : semF tbl (gam sAll_g) sAll_h fuelN 4 (bodyOf Tryz.f21) sAll_c.ps sAll_c.rs [4] [(0, 25)] v = sAll_c.g v := by kernel_rfl

/- 75: slices.Grow[[]string,string] -/
def growS (p1 : Int) : Option (Unit × (List (List UInt8) × Unit)) :=
 (Option.bind (show Option (Unit × (Int × Unit)) from
 bif (decide (p1 < (0 : Int))) then
 none
 else
 some ((), (p1, ()))) fun y2 =>
 let v3 := (IntKind.i64.wrap (y2.2.1 - (IntKind.i64.wrap ((0 : Int) - (0 : Int)))))
 bif (decide (v3 > (0 : Int))) then
 bif (inB (0 : Int) (0 : Int) 0) then
 bif (decide (0 ≤ v3) && roomOk (Int.toNat v3) 16) then
 bif (inB (0 : Int) (0 : Int) (List.replicate (Int.toNat v3) ([] : List UInt8)).length) then
 some ((), (((((List.replicate (Int.toNat v3) ([] : List UInt8))).drop (0 : Int).toNat).take ((0 : Int) - (0 : Int)).toNat), ()))
 else none
 else none
 else none
 else
 some ((), (([] : List (List UInt8)), ())))


def growS_c : Ctr := ⟨[.ro .nils, .ro yi64], [.own (.vec .str)], fun v => growS v.2.1⟩
def growS_h : Nat → Option LH := fun i => if i = 1010003 then some ⟨⟨[], []⟩, [(.normal, ⟨[(0, .nils), (1, yi64)], []⟩)]⟩ else none
def growS_g : List (Nat × Ctr) := []
theorem growS_eq (v : PDen growS_c.ps) : semF tbl (gam growS_g) growS_h fuelN 27 (bodyOf Tryz.f75) growS_c.ps growS_c.rs [4] [] v = growS_c.g v := by kernel_rfl

/- 56: slices.Concat[[]string,string] -/
def concatS_s3 (a0 : List (List (List UInt8))) (a3 : Int) (a9 : List (List (List UInt8))) (a10 : Int) (a11 : Int) : Option ((List (List (List UInt8)) × (Int × (List (List (List UInt8)) × (Int × (Int × Unit))))) ⊕ (List (List (List UInt8)) × (Int × Unit))) :=
 bif (decide (a11 < a10)) then
 (Option.bind (lk a9 a11) fun x4 =>
 let v5 := (decide ((IntKind.i64.wrap (a3 + (x4.length : Int))) < (0 : Int)))
 bif v5 then
 none
 else
 some (.inl (a0, ((IntKind.i64.wrap (a3 + (x4.length : Int))), (a9, (a10, ((IntKind.i64.wrap (a11 + (1 : Int))), ())))))))
 else
 some (.inr (a0, (a3, ())))

def concatS_s10 (a6 : List (List UInt8)) (a25 : List (List (List UInt8))) (a26 : Int) (a27 : Int) : Option ((List (List UInt8) × (List (List (List UInt8)) × (Int × (Int × Unit)))) ⊕ (List (List UInt8) × Unit)) :=
 bif (decide (a27 < a26)) then
 (Option.bind (lk a25 a27) fun x11 =>
 bif (roomOk (a6.length + x11.length) 16) then
 some (.inl ((a6 ++ x11), (a25, (a26, ((IntKind.i64.wrap (a27 + (1 : Int))), ())))))
 else none)
 else
 some (.inr (a6, ()))

def concatS (p0 : List (List (List UInt8))) : Option (Unit × (List (List UInt8) × Unit)) :=
 (Option.bind (show Option (List (List (List UInt8)) × (Int × Unit)) from
 (Option.bind (iterN (fun x => concatS_s3 x.1 x.2.1 x.2.2.1 x.2.2.2.1 x.2.2.2.2.1) fuelN (p0, ((0 : Int), (p0, ((p0.length : Int), ((0 : Int), ())))))) fun y6 =>
 some (y6.1, (y6.2.1, ())))) fun y7 =>
 (Option.bind (growS y7.2.1) fun r8 =>
 (Option.bind (iterN (fun x => concatS_s10 x.1 x.2.1 x.2.2.1 x.2.2.2.1) fuelN (r8.2.1, (y7.1, ((y7.1.length : Int), ((0 : Int), ()))))) fun y12 =>
 some ((), (y12.1, ())))))


def concatS_c : Ctr := ⟨[.ro (.slice (.slice .str))], [.own (.vec .str)], fun v => concatS v.1⟩
def concatS_h : Nat → Option LH := fun i => if i = 11 then some ⟨⟨[(6, (.vec .str)), (25, (.slice (.slice .str))), (26, yi64), (27, yi64)], []⟩, [((.exit 2), ⟨[(6, (.vec .str))], []⟩)]⟩ else if i = 1020009 then some ⟨⟨[], []⟩, [(.normal, ⟨[(0, (.slice (.slice .str))), (3, yi64)], []⟩)]⟩ else if i = 3 then some ⟨⟨[(0, (.slice (.slice .str))), (3, yi64), (9, (.slice (.slice .str))), (10, yi64), (11, yi64)], []⟩, [((.exit 0), ⟨[(0, (.slice (.slice .str))), (3, yi64)], []⟩)]⟩ else none
def concatS_g : List (Nat × Ctr) := [(75, growS_c)]
theorem concatS_eq (v : PDen concatS_c.ps) : semF tbl (gam concatS_g) concatS_h fuelN 36 (bodyOf Tryz.f56) concatS_c.ps concatS_c.rs [2] [] v = concatS_c.g v := by kernel_rfl

/- 35: trema/segset.Union$1 -/
def kU (p0 : Bool) (p1 : Bool) : Option (Unit × (Bool × Unit)) :=
 bif p0 then
 some ((), (true, ()))
 else
 some ((), (p1, ()))


def kU_c : Ctr := ⟨[.ro .bool, .ro .bool], [.val .bool], fun v => kU v.1 v.2.1⟩
def kU_h : Nat → Option LH := fun i => none
def kU_g : List (Nat × Ctr) := []
theorem kU_eq (v : PDen kU_c.ps) : semF tbl (gam kU_g) kU_h fuelN 9 (bodyOf Tryz.f35) kU_c.ps kU_c.rs [4] [] v = kU_c.g v := by kernel_rfl

/- 37: trema/segset.Meet$1 -/
def kM (p0 : Bool) (p1 : Bool) : Option (Unit × (Bool × Unit)) :=
 bif p0 then
 some ((), (p1, ()))
 else
 some ((), (false, ()))


def kM_c : Ctr := ⟨[.ro .bool, .ro .bool], [.val .bool], fun v => kM v.1 v.2.1⟩
def kM_h : Nat → Option LH := fun i => none
def kM_g : List (Nat × Ctr) := []
theorem kM_eq (v : PDen kM_c.ps) : semF tbl (gam kM_g) kM_h fuelN 9 (bodyOf Tryz.f37) kM_c.ps kM_c.rs [4] [] v = kM_c.g v := by kernel_rfl

/- 39: trema/segset.Minus$1 -/
def kD (p0 : Bool) (p1 : Bool) : Option (Unit × (Bool × Unit)) :=
 bif p0 then
 some ((), ((!p1), ()))
 else
 some ((), (false, ()))


def kD_c : Ctr := ⟨[.ro .bool, .ro .bool], [.val .bool], fun v => kD v.1 v.2.1⟩
def kD_h : Nat → Option LH := fun i => none
def kD_g : List (Nat × Ctr) := []
theorem kD_eq (v : PDen kD_c.ps) : semF tbl (gam kD_g) kD_h fuelN 10 (bodyOf Tryz.f39) kD_c.ps kD_c.rs [4] [] v = kD_c.g v := by kernel_rfl

/- 33: trema/segset.joined -/
def joinU_s9 (a4 : (List (Int × Int) × (List (Int × Int) × List (List UInt8)))) (a5 : (List (Int × Int) × (List (Int × Int) × List (List UInt8)))) (a8 : (Unit × (Unit × Unit))) (a9 : (List (Int × Int) × (List (Int × Int) × List (List UInt8)))) (a38 : List (List UInt8)) (a39 : Int) (a40 : Int) : Option (((List (Int × Int) × (List (Int × Int) × List (List UInt8))) × ((List (Int × Int) × (List (Int × Int) × List (List UInt8))) × ((Unit × (Unit × Unit)) × ((List (Int × Int) × (List (Int × Int) × List (List UInt8))) × (List (List UInt8) × (Int × (Int × Unit))))))) ⊕ ((Unit × (Unit × Unit)) × ((List (Int × Int) × (List (Int × Int) × List (List UInt8))) × Unit))) :=
 bif (decide (a40 < a39)) then
 (Option.bind (lk a38 a40) fun _x10 =>
 (Option.bind (lk a38 a40) fun x11 =>
 (Option.bind (sRead x11) fun r12 =>
 (Option.bind (sHas a4 x11) fun r13 =>
 (Option.bind (sHas a5 x11) fun r14 =>
 (Option.bind (kU r13.2.1 r14.2.1) fun r15 =>
 (Option.bind (rHas a9.2.1 r12.2.1) fun r16 =>
 bif (!(r15.2.1 == r16.2.1)) then
 bif (roomOk (a9.2.2.length + [x11].length) 16) then
 some (.inl (a4, (a5, (((), ((), ())), ((a9.1, (a9.2.1, (a9.2.2 ++ [x11]))), (a38, (a39, ((IntKind.i64.wrap (a40 + (1 : Int))), ()))))))))
 else none
 else
 some (.inl (a4, (a5, (((), ((), ())), (a9, (a38, (a39, ((IntKind.i64.wrap (a40 + (1 : Int))), ())))))))))))))))
 else
 some (.inr (((), ((), ())), (a9, ())))

def joinU (p0 : (List (Int × Int) × (List (Int × Int) × List (List UInt8)))) (p1 : (List (Int × Int) × (List (Int × Int) × List (List UInt8)))) : Option (Unit × ((List (Int × Int) × (List (Int × Int) × List (List UInt8))) × Unit)) :=
 (Option.bind (sNorm p0) fun r1 =>
 (Option.bind (sNorm p1) fun r2 =>
 (Option.bind (rUnion r1.2.1.1 r2.2.1.1) fun r3 =>
 (Option.bind (rUnion r1.2.1.2.1 r2.2.1.2.1) fun r4 =>
 (Option.bind (concatS [r1.2.1.2.2, r2.2.1.2.2]) fun r5 =>
 (Option.bind (sOdd r5.2.1) fun r6 =>
 (Option.bind (iterN (fun x => joinU_s9 x.1 x.2.1 x.2.2.1 x.2.2.2.1 x.2.2.2.2.1 x.2.2.2.2.2.1 x.2.2.2.2.2.2.1) fuelN (r1.2.1, (r2.2.1, (((), ((), ())), ((r3.2.1, (r4.2.1, ([] : List (List UInt8)))), (r6.2.1, ((r6.2.1.length : Int), ((0 : Int), ())))))))) fun y17 =>
 some ((), (y17.2.1, ())))))))))


def joinU_c : Ctr := ⟨[.ro y2, .ro y2, .ro (.clo 34 .unit), .ro (.clo 35 .unit)], [.own y1], fun v => joinU v.1 v.2.1⟩
def joinU_h : Nat → Option LH := fun i => if i = 4 then some ⟨⟨[(4, (.bx (.st (.pair (.vec y0) (.pair (.vec y0) (.slice .str)))))), (5, (.bx (.st (.pair (.vec y0) (.pair (.vec y0) (.slice .str)))))), (8, (.bx (.st (.pair .nils (.pair .nils .nils))))), (9, (.bx y1)), (38, (.vec .str)), (39, yi64), (40, yi64)], [(3, 35)]⟩, [((.exit 0), ⟨[(8, (.bx (.st (.pair .nils (.pair .nils .nils))))), (9, (.bx y1))], []⟩)]⟩ else none
def joinU_g : List (Nat × Ctr) := [(34, rUnion_c), (42, rHas_c), (41, sRead_c), (32, sOdd_c), (9, sNorm_c), (15, sHas_c), (56, concatS_c), (35, kU_c)]
theorem joinU_eq (v : PDen joinU_c.ps) : semF tbl (gam joinU_g) joinU_h fuelN 71 (bodyOf Tryz.f33) joinU_c.ps joinU_c.rs [71] [(8, 25)] v = joinU_c.g v := by kernel_rfl

/- 33: trema/segset.joined -/
def joinM_s9 (a4 : (List (Int × Int) × (List (Int × Int) × List (List UInt8)))) (a5 : (List (Int × Int) × (List (Int × Int) × List (List UInt8)))) (a8 : (Unit × (Unit × Unit))) (a9 : (List (Int × Int) × (List (Int × Int) × List (List UInt8)))) (a38 : List (List UInt8)) (a39 : Int) (a40 : Int) : Option (((List (Int × Int) × (List (Int × Int) × List (List UInt8))) × ((List (Int × Int) × (List (Int × Int) × List (List UInt8))) × ((Unit × (Unit × Unit)) × ((List (Int × Int) × (List (Int × Int) × List (List UInt8))) × (List (List UInt8) × (Int × (Int × Unit))))))) ⊕ ((Unit × (Unit × Unit)) × ((List (Int × Int) × (List (Int × Int) × List (List UInt8))) × Unit))) :=
 bif (decide (a40 < a39)) then
 (Option.bind (lk a38 a40) fun _x10 =>
 (Option.bind (lk a38 a40) fun x11 =>
 (Option.bind (sRead x11) fun r12 =>
 (Option.bind (sHas a4 x11) fun r13 =>
 (Option.bind (sHas a5 x11) fun r14 =>
 (Option.bind (kM r13.2.1 r14.2.1) fun r15 =>
 (Option.bind (rHas a9.2.1 r12.2.1) fun r16 =>
 bif (!(r15.2.1 == r16.2.1)) then
 bif (roomOk (a9.2.2.length + [x11].length) 16) then
 some (.inl (a4, (a5, (((), ((), ())), ((a9.1, (a9.2.1, (a9.2.2 ++ [x11]))), (a38, (a39, ((IntKind.i64.wrap (a40 + (1 : Int))), ()))))))))
 else none
 else
 some (.inl (a4, (a5, (((), ((), ())), (a9, (a38, (a39, ((IntKind.i64.wrap (a40 + (1 : Int))), ())))))))))))))))
 else
 some (.inr (((), ((), ())), (a9, ())))

def joinM (p0 : (List (Int × Int) × (List (Int × Int) × List (List UInt8)))) (p1 : (List (Int × Int) × (List (Int × Int) × List (List UInt8)))) : Option (Unit × ((List (Int × Int) × (List (Int × Int) × List (List UInt8))) × Unit)) :=
 (Option.bind (sNorm p0) fun r1 =>
 (Option.bind (sNorm p1) fun r2 =>
 (Option.bind (rMeet r1.2.1.1 r2.2.1.1) fun r3 =>
 (Option.bind (rMeet r1.2.1.2.1 r2.2.1.2.1) fun r4 =>
 (Option.bind (concatS [r1.2.1.2.2, r2.2.1.2.2]) fun r5 =>
 (Option.bind (sOdd r5.2.1) fun r6 =>
 (Option.bind (iterN (fun x => joinM_s9 x.1 x.2.1 x.2.2.1 x.2.2.2.1 x.2.2.2.2.1 x.2.2.2.2.2.1 x.2.2.2.2.2.2.1) fuelN (r1.2.1, (r2.2.1, (((), ((), ())), ((r3.2.1, (r4.2.1, ([] : List (List UInt8)))), (r6.2.1, ((r6.2.1.length : Int), ((0 : Int), ())))))))) fun y17 =>
 some ((), (y17.2.1, ())))))))))


def joinM_c : Ctr := ⟨[.ro y2, .ro y2, .ro (.clo 36 .unit), .ro (.clo 37 .unit)], [.own y1], fun v => joinM v.1 v.2.1⟩
def joinM_h : Nat → Option LH := fun i => if i = 4 then some ⟨⟨[(4, (.bx (.st (.pair (.vec y0) (.pair (.vec y0) (.slice .str)))))), (5, (.bx (.st (.pair (.vec y0) (.pair (.vec y0) (.slice .str)))))), (8, (.bx (.st (.pair .nils (.pair .nils .nils))))), (9, (.bx y1)), (38, (.vec .str)), (39, yi64), (40, yi64)], [(3, 37)]⟩, [((.exit 0), ⟨[(8, (.bx (.st (.pair .nils (.pair .nils .nils))))), (9, (.bx y1))], []⟩)]⟩ else none
def joinM_g : List (Nat × Ctr) := [(36, rMeet_c), (42, rHas_c), (41, sRead_c), (32, sOdd_c), (9, sNorm_c), (15, sHas_c), (56, concatS_c), (37, kM_c)]
theorem joinM_eq (v : PDen joinM_c.ps) : semF tbl (gam joinM_g) joinM_h fuelN 71 (bodyOf Tryz.f33) joinM_c.ps joinM_c.rs [71] [(8, 25)] v = joinM_c.g v := by kernel_rfl

/- 33: trema/segset.joined -/
def joinD_s9 (a4 : (List (Int × Int) × (List (Int × Int) × List (List UInt8)))) (a5 : (List (Int × Int) × (List (Int × Int) × List (List UInt8)))) (a8 : (Unit × (Unit × Unit))) (a9 : (List (Int × Int) × (List (Int × Int) × List (List UInt8)))) (a38 : List (List UInt8)) (a39 : Int) (a40 : Int) : Option (((List (Int × Int) × (List (Int × Int) × List (List UInt8))) × ((List (Int × Int) × (List (Int × Int) × List (List UInt8))) × ((Unit × (Unit × Unit)) × ((List (Int × Int) × (List (Int × Int) × List (List UInt8))) × (List (List UInt8) × (Int × (Int × Unit))))))) ⊕ ((Unit × (Unit × Unit)) × ((List (Int × Int) × (List (Int × Int) × List (List UInt8))) × Unit))) :=
 bif (decide (a40 < a39)) then
 (Option.bind (lk a38 a40) fun _x10 =>
 (Option.bind (lk a38 a40) fun x11 =>
 (Option.bind (sRead x11) fun r12 =>
 (Option.bind (sHas a4 x11) fun r13 =>
 (Option.bind (sHas a5 x11) fun r14 =>
 (Option.bind (kD r13.2.1 r14.2.1) fun r15 =>
 (Option.bind (rHas a9.2.1 r12.2.1) fun r16 =>
 bif (!(r15.2.1 == r16.2.1)) then
 bif (roomOk (a9.2.2.length + [x11].length) 16) then
 some (.inl (a4, (a5, (((), ((), ())), ((a9.1, (a9.2.1, (a9.2.2 ++ [x11]))), (a38, (a39, ((IntKind.i64.wrap (a40 + (1 : Int))), ()))))))))
 else none
 else
 some (.inl (a4, (a5, (((), ((), ())), (a9, (a38, (a39, ((IntKind.i64.wrap (a40 + (1 : Int))), ())))))))))))))))
 else
 some (.inr (((), ((), ())), (a9, ())))

def joinD (p0 : (List (Int × Int) × (List (Int × Int) × List (List UInt8)))) (p1 : (List (Int × Int) × (List (Int × Int) × List (List UInt8)))) : Option (Unit × ((List (Int × Int) × (List (Int × Int) × List (List UInt8))) × Unit)) :=
 (Option.bind (sNorm p0) fun r1 =>
 (Option.bind (sNorm p1) fun r2 =>
 (Option.bind (rMinus r1.2.1.1 r2.2.1.1) fun r3 =>
 (Option.bind (rMinus r1.2.1.2.1 r2.2.1.2.1) fun r4 =>
 (Option.bind (concatS [r1.2.1.2.2, r2.2.1.2.2]) fun r5 =>
 (Option.bind (sOdd r5.2.1) fun r6 =>
 (Option.bind (iterN (fun x => joinD_s9 x.1 x.2.1 x.2.2.1 x.2.2.2.1 x.2.2.2.2.1 x.2.2.2.2.2.1 x.2.2.2.2.2.2.1) fuelN (r1.2.1, (r2.2.1, (((), ((), ())), ((r3.2.1, (r4.2.1, ([] : List (List UInt8)))), (r6.2.1, ((r6.2.1.length : Int), ((0 : Int), ())))))))) fun y17 =>
 some ((), (y17.2.1, ())))))))))


def joinD_c : Ctr := ⟨[.ro y2, .ro y2, .ro (.clo 38 .unit), .ro (.clo 39 .unit)], [.own y1], fun v => joinD v.1 v.2.1⟩
def joinD_h : Nat → Option LH := fun i => if i = 4 then some ⟨⟨[(4, (.bx (.st (.pair (.vec y0) (.pair (.vec y0) (.slice .str)))))), (5, (.bx (.st (.pair (.vec y0) (.pair (.vec y0) (.slice .str)))))), (8, (.bx (.st (.pair .nils (.pair .nils .nils))))), (9, (.bx y1)), (38, (.vec .str)), (39, yi64), (40, yi64)], [(3, 39)]⟩, [((.exit 0), ⟨[(8, (.bx (.st (.pair .nils (.pair .nils .nils))))), (9, (.bx y1))], []⟩)]⟩ else none
def joinD_g : List (Nat × Ctr) := [(38, rMinus_c), (42, rHas_c), (41, sRead_c), (32, sOdd_c), (9, sNorm_c), (15, sHas_c), (56, concatS_c), (39, kD_c)]
theorem joinD_eq (v : PDen joinD_c.ps) : semF tbl (gam joinD_g) joinD_h fuelN 71 (bodyOf Tryz.f33) joinD_c.ps joinD_c.rs [71] [(8, 25)] v = joinD_c.g v := by kernel_rfl

/- 10: trema/segset.Union -/
def sUnion (p0 : (List (Int × Int) × (List (Int × Int) × List (List UInt8)))) (p1 : (List (Int × Int) × (List (Int × Int) × List (List UInt8)))) : Option (Unit × ((List (Int × Int) × (List (Int × Int) × List (List UInt8))) × Unit)) :=
 (Option.bind (joinU p0 p1) fun r1 =>
 some ((), (r1.2.1, ())))


def sUnion_c : Ctr := ⟨[.ro y2, .ro y2], [.own y1], fun v => sUnion v.1 v.2.1⟩
def sUnion_h : Nat → Option LH := fun i => none
def sUnion_g : List (Nat × Ctr) := [(33, joinU_c), (33, joinM_c), (33, joinD_c)]
theorem sUnion_eq (v : PDen sUnion_c.ps) : semF tbl (gam sUnion_g) sUnion_h fuelN 8 (bodyOf Tryz.f10) sUnion_c.ps sUnion_c.rs [8] [(4, 25)] v = sUnion_c.g v := by kernel_rfl

/- 11: trema/segset.Meet -/
def sMeet (p0 : (List (Int × Int) × (List (Int × Int) × List (List UInt8)))) (p1 : (List (Int × Int) × (List (Int × Int) × List (List UInt8)))) : Option (Unit × ((List (Int × Int) × (List (Int × Int) × List (List UInt8))) × Unit)) :=
 (Option.bind (joinM p0 p1) fun r1 =>
 some ((), (r1.2.1, ())))


def sMeet_c : Ctr := ⟨[.ro y2, .ro y2], [.own y1], fun v => sMeet v.1 v.2.1⟩
def sMeet_h : Nat → Option LH := fun i => none
def sMeet_g : List (Nat × Ctr) := [(33, joinU_c), (33, joinM_c), (33, joinD_c)]
theorem sMeet_eq (v : PDen sMeet_c.ps) : semF tbl (gam sMeet_g) sMeet_h fuelN 8 (bodyOf Tryz.f11) sMeet_c.ps sMeet_c.rs [8] [(4, 25)] v = sMeet_c.g v := by kernel_rfl

/- 12: trema/segset.Minus -/
def sMinus (p0 : (List (Int × Int) × (List (Int × Int) × List (List UInt8)))) (p1 : (List (Int × Int) × (List (Int × Int) × List (List UInt8)))) : Option (Unit × ((List (Int × Int) × (List (Int × Int) × List (List UInt8))) × Unit)) :=
 (Option.bind (joinD p0 p1) fun r1 =>
 some ((), (r1.2.1, ())))


def sMinus_c : Ctr := ⟨[.ro y2, .ro y2], [.own y1], fun v => sMinus v.1 v.2.1⟩
def sMinus_h : Nat → Option LH := fun i => none
def sMinus_g : List (Nat × Ctr) := [(33, joinU_c), (33, joinM_c), (33, joinD_c)]
theorem sMinus_eq (v : PDen sMinus_c.ps) : semF tbl (gam sMinus_g) sMinus_h fuelN 8 (bodyOf Tryz.f12) sMinus_c.ps sMinus_c.rs [8] [(4, 25)] v = sMinus_c.g v := by kernel_rfl

/- 13: trema/segset.Not -/
def sNot (p0 : (List (Int × Int) × (List (Int × Int) × List (List UInt8)))) : Option (Unit × ((List (Int × Int) × (List (Int × Int) × List (List UInt8))) × Unit)) :=
 (Option.bind (sAll) fun r1 =>
 (Option.bind (sMinus r1.2.1 p0) fun r2 =>
 some ((), (r2.2.1, ()))))


def sNot_c : Ctr := ⟨[.ro y2], [.own y1], fun v => sNot v.1⟩
def sNot_h : Nat → Option LH := fun i => none
def sNot_g : List (Nat × Ctr) := [(21, sAll_c), (12, sMinus_c)]
theorem sNot_eq (v : PDen sNot_c.ps) : semF tbl (gam sNot_g) sNot_h fuelN 6 (bodyOf Tryz.f13) sNot_c.ps sNot_c.rs [6] [(2, 25)] v = sNot_c.g v := by kernel_rfl

/- 19: trema/segset.Equal -/
def sEqual (p0 : (List (Int × Int) × (List (Int × Int) × List (List UInt8)))) (p1 : (List (Int × Int) × (List (Int × Int) × List (List UInt8)))) : Option (Unit × (Bool × Unit)) :=
 (Option.bind (sNorm p0) fun r1 =>
 (Option.bind (sNorm p1) fun r2 =>
 (Option.bind (sSame r1.2.1 r2.2.1) fun r3 =>
 some ((), (r3.2.1, ())))))


def sEqual_c : Ctr := ⟨[.ro y2, .ro y2], [.val .bool], fun v => sEqual v.1 v.2.1⟩
def sEqual_h : Nat → Option LH := fun i => none
def sEqual_g : List (Nat × Ctr) := [(9, sNorm_c), (40, sSame_c)]
theorem sEqual_eq (v : PDen sEqual_c.ps) : semF tbl (gam sEqual_g) sEqual_h fuelN 10 (bodyOf Tryz.f19) sEqual_c.ps sEqual_c.rs [4] [] v = sEqual_c.g v := by kernel_rfl

/- 20: trema/segset.Empty -/
def sEmpty (p0 : (List (Int × Int) × (List (Int × Int) × List (List UInt8)))) : Option (Unit × (Bool × Unit)) :=
 (Option.bind (sEqual p0 (([] : List (Int × Int)), (([] : List (Int × Int)), ([] : List (List UInt8))))) fun r1 =>
 some ((), (r1.2.1, ())))


def sEmpty_c : Ctr := ⟨[.ro y2], [.val .bool], fun v => sEmpty v.1⟩
def sEmpty_h : Nat → Option LH := fun i => none
def sEmpty_g : List (Nat × Ctr) := [(19, sEqual_c)]
theorem sEmpty_eq (v : PDen sEmpty_c.ps) : semF tbl (gam sEmpty_g) sEmpty_h fuelN 6 (bodyOf Tryz.f20) sEmpty_c.ps sEmpty_c.rs [2] [] v = sEmpty_c.g v := by kernel_rfl

/- 84: trema/tremaref01.row -/
def row1 (p0 : Int) : Option (Unit × (List Int × (Bool × Unit))) :=
 bif (decide (p0 ≤ (127 : Int))) then
 some ((), (([] : List Int), (true, ())))
 else
 (Option.bind (show Option (Int × (Bool × Unit)) from
 bif (decide (p0 ≥ (194 : Int))) then
 some (p0, ((decide (p0 ≤ (223 : Int))), ()))
 else
 some (p0, (false, ()))) fun y2 =>
 bif y2.2.1 then
 some ((), ([(128 : Int), (191 : Int)], (true, ())))
 else
 bif (y2.1 == (224 : Int)) then
 some ((), ([(160 : Int), (191 : Int), (128 : Int), (191 : Int)], (true, ())))
 else
 bif (y2.1 == (237 : Int)) then
 some ((), ([(128 : Int), (159 : Int), (128 : Int), (191 : Int)], (true, ())))
 else
 (Option.bind (show Option (Int × (Bool × Unit)) from
 bif (decide (y2.1 ≥ (225 : Int))) then
 some (y2.1, ((decide (y2.1 ≤ (239 : Int))), ()))
 else
 some (y2.1, (false, ()))) fun y4 =>
 bif y4.2.1 then
 some ((), ([(128 : Int), (191 : Int), (128 : Int), (191 : Int)], (true, ())))
 else
 bif (y4.1 == (240 : Int)) then
 some ((), ([(144 : Int), (191 : Int), (128 : Int), (191 : Int), (128 : Int), (191 : Int)], (true, ())))
 else
 (Option.bind (show Option (Int × (Bool × Unit)) from
 bif (decide (y4.1 ≥ (241 : Int))) then
 some (y4.1, ((decide (y4.1 ≤ (243 : Int))), ()))
 else
 some (y4.1, (false, ()))) fun y6 =>
 bif y6.2.1 then
 some ((), ([(128 : Int), (191 : Int), (128 : Int), (191 : Int), (128 : Int), (191 : Int)], (true, ())))
 else
 bif (y6.1 == (244 : Int)) then
 some ((), ([(128 : Int), (143 : Int), (128 : Int), (191 : Int), (128 : Int), (191 : Int)], (true, ())))
 else
 some ((), (([] : List Int), (false, ()))))))


def row1_c : Ctr := ⟨[.ro yu8], [.val (.slice yu8), .val .bool], fun v => row1 v.1⟩
def row1_h : Nat → Option LH := fun i => if i = 1130014 then some ⟨⟨[], []⟩, [(.normal, ⟨[(0, yu8), (35, .bool)], []⟩)]⟩ else if i = 1090010 then some ⟨⟨[], []⟩, [(.normal, ⟨[(0, yu8), (23, .bool)], []⟩)]⟩ else if i = 1030004 then some ⟨⟨[], []⟩, [(.normal, ⟨[(0, yu8), (7, .bool)], []⟩)]⟩ else none
def row1_g : List (Nat × Ctr) := []
theorem row1_eq (v : PDen row1_c.ps) : semF tbl (gam row1_g) row1_h fuelN 47 (bodyOf Tryz.f84) row1_c.ps row1_c.rs [2, 3] [] v = row1_c.g v := by kernel_rfl

/- 69: trema/tremaref01.At -/
def at1_s7 (a0 : List Int) (a1 : Int) (a7 : List Int) (a9 : Int) : Option ((List Int × (Int × (List Int × (Int × Unit)))) ⊕ (List Int × (Int × (List Int × (Int × Unit))))) :=
 (Option.bind (show Option ((List Int × (Int × (List Int × (Int × Unit)))) ⊕ (List Int × (Int × (List Int × (Int × Unit))))) from
 bif ((2 : Int) != 0) then
 let v9 := (decide (a9 ≤ (IntKind.i64.wrap (Int.tdiv (a7.length : Int) (2 : Int)))))
 bif v9 then
 bif (decide ((IntKind.i64.wrap (a1 + a9)) < (a0.length : Int))) then
 (Option.bind (lk a0 (IntKind.i64.wrap (a1 + a9))) fun x10 =>
 let v11 := (IntKind.i64.wrap ((IntKind.i64.wrap ((2 : Int) * a9)) - (2 : Int)))
 (Option.bind (lk a7 v11) fun x12 =>
 bif (decide (x10 ≥ x12)) then
 (Option.bind (lk a0 (IntKind.i64.wrap (a1 + a9))) fun x13 =>
 let v14 := (IntKind.i64.wrap ((IntKind.i64.wrap ((2 : Int) * a9)) - (1 : Int)))
 (Option.bind (lk a7 v14) fun x15 =>
 bif (decide (x13 ≤ x15)) then
 some (.inl (a0, (a1, (a7, (a9, ())))))
 else
 some (.inr (a0, (a1, (a7, (a9, ())))))))
 else
 some (.inr (a0, (a1, (a7, (a9, ())))))))
 else
 some (.inr (a0, (a1, (a7, (a9, ())))))
 else
 some (.inr (a0, (a1, (a7, (a9, ())))))
 else none) fun y16 =>
 (match y16 with
 | .inl y16 =>
 some (.inl (y16.1, (y16.2.1, (y16.2.2.1, ((IntKind.i64.wrap (y16.2.2.2.1 + (1 : Int))), ())))))
 | .inr y16 =>
 some (.inr (y16.1, (y16.2.1, (y16.2.2.1, (y16.2.2.2.1, ())))))))

def at1_s30 (a0 : List Int) (a1 : Int) (a9 : Int) (a10 : Int) (a11 : Int) : Option ((List Int × (Int × (Int × (Int × (Int × Unit))))) ⊕ (Int × (Int × Unit))) :=
 (Option.bind (show Option ((List Int × (Int × (Int × (Int × (Int × Unit))))) ⊕ (Int × (Int × Unit))) from
 bif (decide (a11 < a9)) then
 some (.inl (a0, (a1, (a9, (a10, (a11, ()))))))
 else
 some (.inr (a9, (a10, ())))) fun y32 =>
 (match y32 with
 | .inl y32 =>
 (Option.bind (show Option (List Int × (Int × (Int × (Int × (Int × Unit))))) from
 (Option.bind (lk y32.1 (IntKind.i64.wrap (y32.2.1 + y32.2.2.2.2.1))) fun x34 =>
 bif ((64 : Int) != 0) then
 let v35 := (IntKind.i32.wrap ((IntKind.i32.wrap (y32.2.2.2.1 * (64 : Int))) + (Int.tmod (IntKind.i32.wrap (x34)) (64 : Int))))
 some (y32.1, (y32.2.1, (y32.2.2.1, (v35, (y32.2.2.2.2.1, ())))))
 else none)) fun y36 =>
 some (.inl (y36.1, (y36.2.1, (y36.2.2.1, (y36.2.2.2.1, ((IntKind.i64.wrap (y36.2.2.2.2.1 + (1 : Int))), ())))))))
 | .inr y32 =>
 some (.inr (y32.1, (y32.2.1, ())))))

def at1 (p0 : List Int) (p1 : Int) : Option (Unit × (Int × (Int × (Bool × Unit)))) :=
 (Option.bind (lk p0 p1) fun x1 =>
 (Option.bind (row1 x1) fun r2 =>
 (Option.bind (show Option ((Int × (Int × (Bool × Unit))) ⊕ (List Int × (Int × (List Int × Unit)))) from
 bif (!r2.2.2.1) then
 some (.inl ((65533 : Int), ((1 : Int), (false, ()))))
 else
 some (.inr (p0, (p1, (r2.2.1, ()))))) fun y4 =>
 (match y4 with
 | .inl y4 =>
 some ((), (y4.1, (y4.2.1, (y4.2.2.1, ()))))
 | .inr y4 =>
 (Option.bind (show Option (List Int × (Int × (List Int × (Int × Unit)))) from
 (Option.bind (iterN (fun x => at1_s7 x.1 x.2.1 x.2.2.1 x.2.2.2.1) fuelN (y4.1, (y4.2.1, (y4.2.2.1, ((1 : Int), ()))))) fun y17 =>
 some (y17.1, (y17.2.1, (y17.2.2.1, (y17.2.2.2.1, ())))))) fun y18 =>
 (Option.bind (show Option ((Int × (Int × (Bool × Unit))) ⊕ (List Int × (Int × (Int × Unit)))) from
 bif ((2 : Int) != 0) then
 let v20 := (IntKind.i64.wrap (Int.tdiv (y18.2.2.1.length : Int) (2 : Int)))
 bif (decide (y18.2.2.2.1 ≤ v20)) then
 let v21 := ((IntKind.i64.wrap (y18.2.1 + y18.2.2.2.1)) == (y18.1.length : Int))
 some (.inl ((65533 : Int), (y18.2.2.2.1, (v21, ()))))
 else
 some (.inr (y18.1, (y18.2.1, (y18.2.2.2.1, ()))))
 else none) fun y22 =>
 (match y22 with
 | .inl y22 =>
 some ((), (y22.1, (y22.2.1, (y22.2.2.1, ()))))
 | .inr y22 =>
 (Option.bind (show Option ((Int × (Int × (Bool × Unit))) ⊕ (List Int × (Int × (Int × Unit)))) from
 bif (y22.2.2.1 == (1 : Int)) then
 (Option.bind (lk y22.1 y22.2.1) fun x24 =>
 some (.inl ((IntKind.i32.wrap (x24)), ((1 : Int), (false, ())))))
 else
 some (.inr (y22.1, (y22.2.1, (y22.2.2.1, ()))))) fun y25 =>
 (match y25 with
 | .inl y25 =>
 some ((), (y25.1, (y25.2.1, (y25.2.2.1, ()))))
 | .inr y25 =>
 (Option.bind (lk y25.1 y25.2.1) fun x26 =>
 bif (decide (0 ≤ (IntKind.i64.wrap ((7 : Int) - y25.2.2.1)))) then
 let v27 := (IntKind.i32.wrap ((1 : Int) * 2 ^ (min (IntKind.i64.wrap ((7 : Int) - y25.2.2.1)).toNat IntKind.i32.bits)))
 bif (v27 != 0) then
 (Option.bind (show Option (Int × (Int × Unit)) from
 (Option.bind (iterN (fun x => at1_s30 x.1 x.2.1 x.2.2.1 x.2.2.2.1 x.2.2.2.2.1) fuelN (y25.1, (y25.2.1, (y25.2.2.1, ((Int.tmod (IntKind.i32.wrap (x26)) v27), ((1 : Int), ())))))) fun y37 =>
 some (y37.1, (y37.2.1, ())))) fun y38 =>
 some ((), (y38.2.1, (y38.1, (false, ())))))
 else none
 else none))))))))))


def at1_c : Ctr := ⟨[.ro (.slice yu8), .ro yi64], [.val yi32, .val yi64, .val .bool], fun v => at1 v.1 v.2.1⟩
def at1_h : Nat → Option LH := fun i => if i = 1120016 then some ⟨⟨[], []⟩, [(.normal, ⟨[(9, yi64), (10, yi32)], []⟩)]⟩ else if i = 13 then some ⟨⟨[(0, (.slice yu8)), (1, yi64), (9, yi64), (10, yi32), (11, yi64)], []⟩, [((.exit 2), ⟨[(9, yi64), (10, yi32)], []⟩)]⟩ else if i = 1150014 then some ⟨⟨[], []⟩, [(.normal, ⟨[(0, (.slice yu8)), (1, yi64), (9, yi64), (10, yi32), (11, yi64)], []⟩)]⟩ else if i = 1130015 then some ⟨⟨[], []⟩, [(.normal, ⟨[(0, (.slice yu8)), (1, yi64), (9, yi64), (10, yi32), (11, yi64)], []⟩), ((.exit 2), ⟨[(9, yi64), (10, yi32)], []⟩)]⟩ else if i = 1090011 then some ⟨⟨[], []⟩, [(.ret, ⟨[(4, yi32), (5, yi64), (6, .bool)], []⟩), (.normal, ⟨[(0, (.slice yu8)), (1, yi64), (9, yi64)], []⟩)]⟩ else if i = 1070009 then some ⟨⟨[], []⟩, [(.ret, ⟨[(4, yi32), (5, yi64), (6, .bool)], []⟩), (.normal, ⟨[(0, (.slice yu8)), (1, yi64), (9, yi64)], []⟩)]⟩ else if i = 1050007 then some ⟨⟨[], []⟩, [(.normal, ⟨[(0, (.slice yu8)), (1, yi64), (7, (.slice yu8)), (9, yi64)], []⟩)]⟩ else if i = 5 then some ⟨⟨[(0, (.slice yu8)), (1, yi64), (7, (.slice yu8)), (9, yi64)], []⟩, [((.exit 0), ⟨[(0, (.slice yu8)), (1, yi64), (7, (.slice yu8)), (9, yi64)], []⟩)]⟩ else if i = 1050006 then some ⟨⟨[], []⟩, [(.normal, ⟨[(0, (.slice yu8)), (1, yi64), (7, (.slice yu8)), (9, yi64)], []⟩), ((.exit 0), ⟨[(0, (.slice yu8)), (1, yi64), (7, (.slice yu8)), (9, yi64)], []⟩)]⟩ else if i = 1020004 then some ⟨⟨[], []⟩, [(.ret, ⟨[(4, yi32), (5, yi64), (6, .bool)], []⟩), (.normal, ⟨[(0, (.slice yu8)), (1, yi64), (7, (.slice yu8))], []⟩)]⟩ else none
def at1_g : List (Nat × Ctr) := [(84, row1_c)]
theorem at1_eq (v : PDen at1_c.ps) : semF tbl (gam at1_g) at1_h fuelN 113 (bodyOf Tryz.f69) at1_c.ps at1_c.rs [4, 5, 6] [] v = at1_c.g v := by kernel_rfl

/- 49: trema/tremaref01.Decode -/
def decode1_s2 (a0 : List Int) (a1 : Bool) (a5 : List (Int × (Int × Int))) (a6 : Int) : Option ((List Int × (Bool × (List (Int × (Int × Int)) × (Int × Unit)))) ⊕ ((List (Int × (Int × Int)) × Unit) ⊕ (List (Int × (Int × Int)) × Unit))) :=
 (Option.bind (show Option ((List Int × (Bool × (List (Int × (Int × Int)) × (Int × Unit)))) ⊕ (List (Int × (Int × Int)) × Unit)) from
 bif (decide (a6 < (a0.length : Int))) then
 some (.inl (a0, (a1, (a5, (a6, ())))))
 else
 some (.inr (a5, ()))) fun y4 =>
 (match y4 with
 | .inl y4 =>
 (Option.bind (at1 y4.1 y4.2.2.2.1) fun r5 =>
 (Option.bind (show Option ((List (Int × (Int × Int)) × Unit) ⊕ (List Int × (Bool × (List (Int × (Int × Int)) × (Int × (Int × (Int × Unit))))))) from
 bif y4.2.1 then
 bif r5.2.2.2.1 then
 some (.inl (y4.2.2.1, ()))
 else
 some (.inr (y4.1, (y4.2.1, (y4.2.2.1, (y4.2.2.2.1, (r5.2.1, (r5.2.2.1, ())))))))
 else
 some (.inr (y4.1, (y4.2.1, (y4.2.2.1, (y4.2.2.2.1, (r5.2.1, (r5.2.2.1, ())))))))) fun y7 =>
 (match y7 with
 | .inl y7 =>
 some (.inr (.inl (y7.1, ())))
 | .inr y7 =>
 bif (roomOk (y7.2.2.1.length + [(y7.2.2.2.2.1, (y7.2.2.2.1, y7.2.2.2.2.2.1))].length) 24) then
 some (.inl (y7.1, (y7.2.1, ((y7.2.2.1 ++ [(y7.2.2.2.2.1, (y7.2.2.2.1, y7.2.2.2.2.2.1))]), ((IntKind.i64.wrap (y7.2.2.2.1 + y7.2.2.2.2.2.1)), ())))))
 else none)))
 | .inr y4 =>
 some (.inr (.inr (y4.1, ())))))

def decode1 (p0 : List Int) (p1 : Bool) : Option (Unit × (List (Int × (Int × Int)) × Unit)) :=
 (Option.bind (iterN (fun x => decode1_s2 x.1 x.2.1 x.2.2.1 x.2.2.2.1) fuelN (p0, (p1, (([] : List (Int × (Int × Int))), ((0 : Int), ()))))) fun y8 =>
 (match y8 with
 | .inl y8 =>
 some ((), (y8.1, ()))
 | .inr y8 =>
 some ((), (y8.1, ()))))


def decode1_c : Ctr := ⟨[.ro (.slice yu8), .ro .bool], [.val (.slice y3)], fun v => decode1 v.1 v.2.1⟩
def decode1_h : Nat → Option LH := fun i => if i = 3 then some ⟨⟨[(0, (.slice yu8)), (1, .bool), (5, (.vec y3)), (6, yi64)], []⟩, [(.ret, ⟨[(4, (.vec y3))], []⟩), ((.exit 0), ⟨[(5, (.vec y3))], []⟩)]⟩ else if i = 1050007 then some ⟨⟨[], []⟩, [(.ret, ⟨[(4, (.vec y3))], []⟩), (.normal, ⟨[(0, (.slice yu8)), (1, .bool), (5, (.vec y3)), (6, yi64), (7, yi32), (8, yi64)], []⟩)]⟩ else if i = 1030004 then some ⟨⟨[], []⟩, [(.normal, ⟨[(0, (.slice yu8)), (1, .bool), (5, (.vec y3)), (6, yi64)], []⟩), ((.exit 0), ⟨[(5, (.vec y3))], []⟩)]⟩ else none
def decode1_g : List (Nat × Ctr) := [(69, at1_c)]
theorem decode1_eq (v : PDen decode1_c.ps) : semF tbl (gam decode1_g) decode1_h fuelN 37 (bodyOf Tryz.f49) decode1_c.ps decode1_c.rs [4] [] v = decode1_c.g v := by kernel_rfl

/- 29: trema/tremaref01.Runes -/
def runes1_s3 (a3 : List Int) (a4 : List (Int × (Int × Int))) (a5 : Int) : Option ((List Int × (List (Int × (Int × Int)) × (Int × Unit))) ⊕ (List Int × Unit)) :=
 (Option.bind (show Option ((List Int × (List (Int × (Int × Int)) × (Int × Unit))) ⊕ (List Int × Unit)) from
 bif (decide (a5 < (a4.length : Int))) then
 some (.inl (a3, (a4, (a5, ()))))
 else
 some (.inr (a3, ()))) fun y5 =>
 (match y5 with
 | .inl y5 =>
 (Option.bind (show Option (List Int × (List (Int × (Int × Int)) × (Int × Unit))) from
 (Option.bind (lk y5.2.1 y5.2.2.1) fun x7 =>
 bif (roomOk (y5.1.length + [x7.1].length) 4) then
 some ((y5.1 ++ [x7.1]), (y5.2.1, (y5.2.2.1, ())))
 else none)) fun y8 =>
 some (.inl (y8.1, (y8.2.1, ((IntKind.i64.wrap (y8.2.2.1 + (1 : Int))), ())))))
 | .inr y5 =>
 some (.inr (y5.1, ()))))

def runes1 (p0 : List Int) : Option (Unit × (List Int × Unit)) :=
 (Option.bind (decode1 p0 false) fun r1 =>
 (Option.bind (iterN (fun x => runes1_s3 x.1 x.2.1 x.2.2.1) fuelN (([] : List Int), (r1.2.1, ((0 : Int), ())))) fun y9 =>
 some ((), (y9.1, ()))))


def runes1_c : Ctr := ⟨[.ro (.slice yu8)], [.own (.vec yi32)], fun v => runes1 v.1⟩
def runes1_h : Nat → Option LH := fun i => if i = 4 then some ⟨⟨[(3, (.vec yi32)), (4, (.slice y3)), (5, yi64)], []⟩, [((.exit 0), ⟨[(3, (.vec yi32))], []⟩)]⟩ else if i = 1060005 then some ⟨⟨[], []⟩, [(.normal, ⟨[(3, (.vec yi32)), (4, (.slice y3)), (5, yi64)], []⟩)]⟩ else if i = 1040006 then some ⟨⟨[], []⟩, [(.normal, ⟨[(3, (.vec yi32)), (4, (.slice y3)), (5, yi64)], []⟩), ((.exit 0), ⟨[(3, (.vec yi32))], []⟩)]⟩ else none
def runes1_g : List (Nat × Ctr) := [(49, decode1_c)]
theorem runes1_eq (v : PDen runes1_c.ps) : semF tbl (gam runes1_g) runes1_h fuelN 23 (bodyOf Tryz.f29) runes1_c.ps runes1_c.rs [2] [] v = runes1_c.g v := by kernel_rfl

/- 70: trema/tremaref01.Valid -/
def valid1 (p0 : Int) : Option (Unit × (Bool × Unit)) :=
 bif (decide (p0 ≥ (0 : Int))) then
 bif (decide (p0 < (1114112 : Int))) then
 bif (decide (p0 ≥ (55296 : Int))) then
 some ((), ((!(decide (p0 < (57344 : Int)))), ()))
 else
 some ((), ((!false), ()))
 else
 some ((), (false, ()))
 else
 some ((), (false, ()))


def valid1_c : Ctr := ⟨[.ro yi32], [.val .bool], fun v => valid1 v.1⟩
def valid1_h : Nat → Option LH := fun i => none
def valid1_g : List (Nat × Ctr) := []
theorem valid1_eq (v : PDen valid1_c.ps) : semF tbl (gam valid1_g) valid1_h fuelN 18 (bodyOf Tryz.f70) valid1_c.ps valid1_c.rs [2] [] v = valid1_c.g v := by kernel_rfl

/- 50: trema/tremaref01.Put -/
def put1 (p0 : List Int) (p1 : Int) : Option (Unit × (List Int × Unit)) :=
 (Option.bind (show Option (List Int × (Int × Unit)) from
 (Option.bind (valid1 p1) fun r2 =>
 bif (!r2.2.1) then
 some (p0, ((65533 : Int), ()))
 else
 some (p0, (p1, ())))) fun y3 =>
 (Option.bind (show Option ((List Int × Unit) ⊕ (List Int × (Int × Unit))) from
 bif (decide (y3.2.1 < (128 : Int))) then
 bif (roomOk (y3.1.length + [(IntKind.u8.wrap (y3.2.1))].length) 1) then
 some (.inl ((y3.1 ++ [(IntKind.u8.wrap (y3.2.1))]), ()))
 else none
 else
 some (.inr (y3.1, (y3.2.1, ())))) fun y5 =>
 (match y5 with
 | .inl y5 =>
 some ((), (y5.1, ()))
 | .inr y5 =>
 (Option.bind (show Option ((List Int × Unit) ⊕ (List Int × (Int × Unit))) from
 bif (decide (y5.2.1 < (2048 : Int))) then
 bif ((64 : Int) != 0) then
 let v7 := (IntKind.i32.wrap ((192 : Int) + (IntKind.i32.wrap (Int.tdiv y5.2.1 (64 : Int)))))
 bif ((64 : Int) != 0) then
 let v8 := (IntKind.i32.wrap ((128 : Int) + (Int.tmod y5.2.1 (64 : Int))))
 bif (roomOk (y5.1.length + [(IntKind.u8.wrap (v7)), (IntKind.u8.wrap (v8))].length) 1) then
 some (.inl ((y5.1 ++ [(IntKind.u8.wrap (v7)), (IntKind.u8.wrap (v8))]), ()))
 else none
 else none
 else none
 else
 some (.inr (y5.1, (y5.2.1, ())))) fun y9 =>
 (match y9 with
 | .inl y9 =>
 some ((), (y9.1, ()))
 | .inr y9 =>
 (Option.bind (show Option ((List Int × Unit) ⊕ (List Int × (Int × Unit))) from
 bif (decide (y9.2.1 < (65536 : Int))) then
 bif ((4096 : Int) != 0) then
 let v11 := (IntKind.i32.wrap ((224 : Int) + (IntKind.i32.wrap (Int.tdiv y9.2.1 (4096 : Int)))))
 bif ((64 : Int) != 0) then
 bif ((64 : Int) != 0) then
 let v12 := (Int.tmod (IntKind.i32.wrap (Int.tdiv y9.2.1 (64 : Int))) (64 : Int))
 bif ((64 : Int) != 0) then
 let v13 := (IntKind.i32.wrap ((128 : Int) + (Int.tmod y9.2.1 (64 : Int))))
 bif (roomOk (y9.1.length + [(IntKind.u8.wrap (v11)), (IntKind.u8.wrap ((IntKind.i32.wrap ((128 : Int) + v12)))), (IntKind.u8.wrap (v13))].length) 1) then
 let l14 := (y9.1 ++ [(IntKind.u8.wrap (v11)), (IntKind.u8.wrap ((IntKind.i32.wrap ((128 : Int) + v12)))), (IntKind.u8.wrap (v13))])
 some (.inl (l14, ()))
 else none
 else none
 else none
 else none
 else none
 else
 some (.inr (y9.1, (y9.2.1, ())))) fun y15 =>
 (match y15 with
 | .inl y15 =>
 some ((), (y15.1, ()))
 | .inr y15 =>
 bif ((262144 : Int) != 0) then
 let v16 := (IntKind.i32.wrap ((240 : Int) + (IntKind.i32.wrap (Int.tdiv y15.2.1 (262144 : Int)))))
 bif ((4096 : Int) != 0) then
 bif ((64 : Int) != 0) then
 let v17 := (Int.tmod (IntKind.i32.wrap (Int.tdiv y15.2.1 (4096 : Int))) (64 : Int))
 bif ((64 : Int) != 0) then
 bif ((64 : Int) != 0) then
 let v18 := (Int.tmod (IntKind.i32.wrap (Int.tdiv y15.2.1 (64 : Int))) (64 : Int))
 bif ((64 : Int) != 0) then
 let v19 := (IntKind.i32.wrap ((128 : Int) + (Int.tmod y15.2.1 (64 : Int))))
 bif (roomOk (y15.1.length + [(IntKind.u8.wrap (v16)), (IntKind.u8.wrap ((IntKind.i32.wrap ((128 : Int) + v17)))), (IntKind.u8.wrap ((IntKind.i32.wrap ((128 : Int) + v18)))), (IntKind.u8.wrap (v19))].length) 1) then
 let l20 := (y15.1 ++ [(IntKind.u8.wrap (v16)), (IntKind.u8.wrap ((IntKind.i32.wrap ((128 : Int) + v17)))), (IntKind.u8.wrap ((IntKind.i32.wrap ((128 : Int) + v18)))), (IntKind.u8.wrap (v19))])
 some ((), (l20, ()))
 else none
 else none
 else none
 else none
 else none
 else none
 else none)))))))


def put1_c : Ctr := ⟨[.own (.vec yu8), .ro yi32], [.own (.vec yu8)], fun v => put1 v.1 v.2.1⟩
def put1_h : Nat → Option LH := fun i => if i = 1070009 then some ⟨⟨[], []⟩, [(.ret, ⟨[(4, (.vec yu8))], []⟩), (.normal, ⟨[(0, (.vec yu8)), (1, yi32)], []⟩)]⟩ else if i = 1050007 then some ⟨⟨[], []⟩, [(.ret, ⟨[(4, (.vec yu8))], []⟩), (.normal, ⟨[(0, (.vec yu8)), (1, yi32)], []⟩)]⟩ else if i = 1030005 then some ⟨⟨[], []⟩, [(.ret, ⟨[(4, (.vec yu8))], []⟩), (.normal, ⟨[(0, (.vec yu8)), (1, yi32)], []⟩)]⟩ else if i = 1010003 then some ⟨⟨[], []⟩, [(.normal, ⟨[(0, (.vec yu8)), (1, yi32)], []⟩)]⟩ else none
def put1_g : List (Nat × Ctr) := [(70, valid1_c)]
theorem put1_eq (v : PDen put1_c.ps) : semF tbl (gam put1_g) put1_h fuelN 67 (bodyOf Tryz.f50) put1_c.ps put1_c.rs [4] [] v = put1_c.g v := by kernel_rfl

/- 30: trema/tremaref01.Encode -/
def encode1_s2 (a0 : List Int) (a3 : List Int) (a4 : Int) : Option ((List Int × (List Int × (Int × Unit))) ⊕ (List Int × Unit)) :=
 (Option.bind (show Option ((List Int × (List Int × (Int × Unit))) ⊕ (List Int × Unit)) from
 bif (decide (a4 < (a0.length : Int))) then
 some (.inl (a0, (a3, (a4, ()))))
 else
 some (.inr (a3, ()))) fun y4 =>
 (match y4 with
 | .inl y4 =>
 (Option.bind (show Option (List Int × (List Int × (Int × Unit))) from
 (Option.bind (lk y4.1 y4.2.2.1) fun x6 =>
 (Option.bind (put1 y4.2.1 x6) fun r7 =>
 some (y4.1, (r7.2.1, (y4.2.2.1, ())))))) fun y8 =>
 some (.inl (y8.1, (y8.2.1, ((IntKind.i64.wrap (y8.2.2.1 + (1 : Int))), ())))))
 | .inr y4 =>
 some (.inr (y4.1, ()))))

def encode1 (p0 : List Int) : Option (Unit × (List Int × Unit)) :=
 (Option.bind (iterN (fun x => encode1_s2 x.1 x.2.1 x.2.2.1) fuelN (p0, (([] : List Int), ((0 : Int), ())))) fun y9 =>
 some ((), (y9.1, ())))


def encode1_c : Ctr := ⟨[.ro (.slice yi32)], [.own (.vec yu8)], fun v => encode1 v.1⟩
def encode1_h : Nat → Option LH := fun i => if i = 3 then some ⟨⟨[(0, (.slice yi32)), (3, (.vec yu8)), (4, yi64)], []⟩, [((.exit 0), ⟨[(3, (.vec yu8))], []⟩)]⟩ else if i = 1050004 then some ⟨⟨[], []⟩, [(.normal, ⟨[(0, (.slice yi32)), (3, (.vec yu8)), (4, yi64)], []⟩)]⟩ else if i = 1030005 then some ⟨⟨[], []⟩, [(.normal, ⟨[(0, (.slice yi32)), (3, (.vec yu8)), (4, yi64)], []⟩), ((.exit 0), ⟨[(3, (.vec yu8))], []⟩)]⟩ else none
def encode1_g : List (Nat × Ctr) := [(50, put1_c)]
theorem encode1_eq (v : PDen encode1_c.ps) : semF tbl (gam encode1_g) encode1_h fuelN 18 (bodyOf Tryz.f30) encode1_c.ps encode1_c.rs [2] [] v = encode1_c.g v := by kernel_rfl

/- 16: trema/tremaref06.Good -/
def good6 (p0 : List UInt8) : Option (Unit × (Bool × Unit)) :=
 (Option.bind (runes1 (u8s p0)) fun r1 =>
 (Option.bind (encode1 r1.2.1) fun r2 =>
 some ((), (((s8u r2.2.1) == p0), ()))))


def good6_c : Ctr := ⟨[.ro .str], [.val .bool], fun v => good6 v.1⟩
def good6_h : Nat → Option LH := fun i => none
def good6_g : List (Nat × Ctr) := [(29, runes1_c), (30, encode1_c)]
theorem good6_eq (v : PDen good6_c.ps) : semF tbl (gam good6_g) good6_h fuelN 10 (bodyOf Tryz.f16) good6_c.ps good6_c.rs [2] [] v = good6_c.g v := by kernel_rfl

/- 45: trema/tremaref01.SameTexts -/
def sameTexts_s4 (a0 : List (List UInt8)) (a1 : List (List UInt8)) (a5 : Int) : Option ((List (List UInt8) × (List (List UInt8) × (Int × Unit))) ⊕ ((Bool × Unit) ⊕ Unit)) :=
 (Option.bind (show Option ((List (List UInt8) × (List (List UInt8) × (Int × Unit))) ⊕ Unit) from
 bif (decide (a5 < (a0.length : Int))) then
 some (.inl (a0, (a1, (a5, ()))))
 else
 some (.inr ())) fun y6 =>
 (match y6 with
 | .inl y6 =>
 (Option.bind (show Option ((Bool × Unit) ⊕ (List (List UInt8) × (List (List UInt8) × (Int × Unit)))) from
 (Option.bind (lk y6.1 y6.2.2.1) fun x8 =>
 (Option.bind (lk y6.2.1 y6.2.2.1) fun x9 =>
 bif (!(x8 == x9)) then
 some (.inl (false, ()))
 else
 some (.inr (y6.1, (y6.2.1, (y6.2.2.1, ()))))))) fun y10 =>
 (match y10 with
 | .inl y10 =>
 some (.inr (.inl (y10.1, ())))
 | .inr y10 =>
 some (.inl (y10.1, (y10.2.1, ((IntKind.i64.wrap (y10.2.2.1 + (1 : Int))), ()))))))
 | .inr y6 =>
 some (.inr (.inr ()))))

def sameTexts (p0 : List (List UInt8)) (p1 : List (List UInt8)) : Option (Unit × (Bool × Unit)) :=
 (Option.bind (show Option ((Bool × Unit) ⊕ (List (List UInt8) × (List (List UInt8) × Unit))) from
 bif ((p0.length : Int) != (p1.length : Int)) then
 some (.inl (false, ()))
 else
 some (.inr (p0, (p1, ())))) fun y2 =>
 (match y2 with
 | .inl y2 =>
 some ((), (y2.1, ()))
 | .inr y2 =>
 (Option.bind (iterN (fun x => sameTexts_s4 x.1 x.2.1 x.2.2.1) fuelN (y2.1, (y2.2.1, ((0 : Int), ())))) fun y11 =>
 (match y11 with
 | .inl y11 =>
 some ((), (y11.1, ()))
 | .inr y11 =>
 some ((), (true, ()))))))


def sameTexts_c : Ctr := ⟨[.ro (.slice .str), .ro (.slice .str)], [.val .bool], fun v => sameTexts v.1 v.2.1⟩
def sameTexts_h : Nat → Option LH := fun i => if i = 4 then some ⟨⟨[(0, (.slice .str)), (1, (.slice .str)), (5, yi64)], []⟩, [(.ret, ⟨[(4, .bool)], []⟩), ((.exit 0), ⟨[], []⟩)]⟩ else if i = 1060005 then some ⟨⟨[], []⟩, [(.ret, ⟨[(4, .bool)], []⟩), (.normal, ⟨[(0, (.slice .str)), (1, (.slice .str)), (5, yi64)], []⟩)]⟩ else if i = 1040006 then some ⟨⟨[], []⟩, [(.normal, ⟨[(0, (.slice .str)), (1, (.slice .str)), (5, yi64)], []⟩), ((.exit 0), ⟨[], []⟩)]⟩ else if i = 1010003 then some ⟨⟨[], []⟩, [(.ret, ⟨[(4, .bool)], []⟩), (.normal, ⟨[(0, (.slice .str)), (1, (.slice .str))], []⟩)]⟩ else none
def sameTexts_g : List (Nat × Ctr) := []
theorem sameTexts_eq (v : PDen sameTexts_c.ps) : semF tbl (gam sameTexts_g) sameTexts_h fuelN 26 (bodyOf Tryz.f45) sameTexts_c.ps sameTexts_c.rs [4] [] v = sameTexts_c.g v := by kernel_rfl

/- 17: trema/tremaref06.Has -/
def has6_s13 (a1 : List UInt8) (a2 : (List (Int × Int) × (List (Int × Int) × List (List UInt8)))) (a6 : Bool) (a7 : Int) : Option ((List UInt8 × ((List (Int × Int) × (List (Int × Int) × List (List UInt8))) × (Bool × (Int × Unit)))) ⊕ ((Bool × Unit) ⊕ (Bool × Unit))) :=
 (Option.bind (show Option ((List UInt8 × ((List (Int × Int) × (List (Int × Int) × List (List UInt8))) × (Bool × (Int × Unit)))) ⊕ (Bool × Unit)) from
 bif (decide (a7 < (a2.2.2.length : Int))) then
 some (.inl (a1, (a2, (a6, (a7, ())))))
 else
 some (.inr (a6, ()))) fun y15 =>
 (match y15 with
 | .inl y15 =>
 (Option.bind (show Option ((Bool × Unit) ⊕ (List UInt8 × ((List (Int × Int) × (List (Int × Int) × List (List UInt8))) × (Bool × (Int × Unit))))) from
 (Option.bind (lk y15.2.1.2.2 y15.2.2.2.1) fun x17 =>
 bif (x17 == y15.1) then
 some (.inl ((!y15.2.2.1), ()))
 else
 some (.inr (y15.1, (y15.2.1, (y15.2.2.1, (y15.2.2.2.1, ()))))))) fun y18 =>
 (match y18 with
 | .inl y18 =>
 some (.inr (.inl (y18.1, ())))
 | .inr y18 =>
 some (.inl (y18.1, (y18.2.1, (y18.2.2.1, ((IntKind.i64.wrap (y18.2.2.2.1 + (1 : Int))), ())))))))
 | .inr y15 =>
 some (.inr (.inr (y15.1, ())))))

def has6 (p0 : (List (Int × Int) × (List (Int × Int) × List (List UInt8)))) (p1 : List UInt8) : Option (Unit × (Bool × Unit)) :=
 (Option.bind (runes1 (u8s p1)) fun r1 =>
 (Option.bind (show Option ((Bool × Unit) ⊕ (List UInt8 × ((List (Int × Int) × (List (Int × Int) × List (List UInt8))) × (List Int × Unit)))) from
 bif ((r1.2.1.length : Int) == (0 : Int)) then
 some (.inl (false, ()))
 else
 some (.inr (p1, (p0, (r1.2.1, ()))))) fun y3 =>
 (match y3 with
 | .inl y3 =>
 some ((), (y3.1, ()))
 | .inr y3 =>
 (Option.bind (show Option ((Bool × Unit) ⊕ (List UInt8 × ((List (Int × Int) × (List (Int × Int) × List (List UInt8))) × (List Int × Unit)))) from
 bif ((y3.2.2.1.length : Int) == (1 : Int)) then
 (Option.bind (lk y3.2.2.1 (0 : Int)) fun _x5 =>
 (Option.bind (lk y3.2.2.1 (0 : Int)) fun x6 =>
 (Option.bind (refHas y3.2.1.1 x6) fun r7 =>
 some (.inl (r7.2.1, ())))))
 else
 some (.inr (y3.1, (y3.2.1, (y3.2.2.1, ()))))) fun y8 =>
 (match y8 with
 | .inl y8 =>
 some ((), (y8.1, ()))
 | .inr y8 =>
 (Option.bind (lk y8.2.2.1 (0 : Int)) fun _x9 =>
 (Option.bind (lk y8.2.2.1 (0 : Int)) fun x10 =>
 (Option.bind (refHas y8.2.1.2.1 x10) fun r11 =>
 (Option.bind (iterN (fun x => has6_s13 x.1 x.2.1 x.2.2.1 x.2.2.2.1) fuelN (y8.1, (y8.2.1, (r11.2.1, ((0 : Int), ()))))) fun y19 =>
 (match y19 with
 | .inl y19 =>
 some ((), (y19.1, ()))
 | .inr y19 =>
 some ((), (y19.1, ()))))))))))))


def has6_c : Ctr := ⟨[.ro y2, .ro .str], [.val .bool], fun v => has6 v.1 v.2.1⟩
def has6_h : Nat → Option LH := fun i => if i = 8 then some ⟨⟨[(1, .str), (2, (.bx y2)), (6, .bool), (7, yi64)], []⟩, [(.ret, ⟨[(4, .bool)], []⟩), ((.exit 0), ⟨[(6, .bool)], []⟩)]⟩ else if i = 1100009 then some ⟨⟨[], []⟩, [(.ret, ⟨[(4, .bool)], []⟩), (.normal, ⟨[(1, .str), (2, (.bx y2)), (6, .bool), (7, yi64)], []⟩)]⟩ else if i = 1080010 then some ⟨⟨[], []⟩, [(.normal, ⟨[(1, .str), (2, (.bx y2)), (6, .bool), (7, yi64)], []⟩), ((.exit 0), ⟨[(6, .bool)], []⟩)]⟩ else if i = 1040006 then some ⟨⟨[], []⟩, [(.ret, ⟨[(4, .bool)], []⟩), (.normal, ⟨[(1, .str), (2, (.bx y2)), (5, (.vec yi32))], []⟩)]⟩ else if i = 1020004 then some ⟨⟨[], []⟩, [(.ret, ⟨[(4, .bool)], []⟩), (.normal, ⟨[(1, .str), (2, (.bx y2)), (5, (.vec yi32))], []⟩)]⟩ else none
def has6_g : List (Nat × Ctr) := [(44, refHas_c), (29, runes1_c)]
theorem has6_eq (v : PDen has6_c.ps) : semF tbl (gam has6_g) has6_h fuelN 46 (bodyOf Tryz.f17) has6_c.ps has6_c.rs [4] [] v = has6_c.g v := by kernel_rfl

/- 18: trema/tremaref06.Same -/
def same6 (p0 : (List (Int × Int) × (List (Int × Int) × List (List UInt8)))) (p1 : (List (Int × Int) × (List (Int × Int) × List (List UInt8)))) : Option (Unit × (Bool × Unit)) :=
 (Option.bind (refSame p0.1 p1.1) fun r1 =>
 bif r1.2.1 then
 (Option.bind (refSame p0.2.1 p1.2.1) fun r2 =>
 bif r2.2.1 then
 (Option.bind (sameTexts p0.2.2 p1.2.2) fun r3 =>
 some ((), (r3.2.1, ())))
 else
 some ((), (false, ())))
 else
 some ((), (false, ())))


def same6_c : Ctr := ⟨[.ro y2, .ro y2], [.val .bool], fun v => same6 v.1 v.2.1⟩
def same6_h : Nat → Option LH := fun i => none
def same6_g : List (Nat × Ctr) := [(24, refSame_c), (45, sameTexts_c)]
theorem same6_eq (v : PDen same6_c.ps) : semF tbl (gam same6_g) same6_h fuelN 24 (bodyOf Tryz.f18) same6_c.ps same6_c.rs [4] [] v = same6_c.g v := by kernel_rfl

/- 8: trema/tremalaw06.fixed -/
def fixed : Option (Unit × (Bool × Unit)) :=
 (Option.bind (sOf ([101, 204, 129] : List UInt8)) fun r1 =>
 (Option.bind (sFirst [((97 : Int), (122 : Int))]) fun r2 =>
 (Option.bind (sNot r1.2.1) fun r3 =>
 (Option.bind (sMinus r2.2.1 r1.2.1) fun r4 =>
 bif ((r1.2.1.2.2.length : Int) == (1 : Int)) then
 (Option.bind (sHas r2.2.1 ([101, 120] : List UInt8)) fun r5 =>
 bif r5.2.1 then
 (Option.bind (sHas r2.2.1 ([69] : List UInt8)) fun r6 =>
 bif (!r6.2.1) then
 (Option.bind (sHas r3.2.1 ([101, 204, 130] : List UInt8)) fun r7 =>
 bif r7.2.1 then
 (Option.bind (sHas r3.2.1 ([101, 204, 129] : List UInt8)) fun r8 =>
 bif (!r8.2.1) then
 (Option.bind (sHas r4.2.1 ([101] : List UInt8)) fun r9 =>
 bif r9.2.1 then
 (Option.bind (sHas r4.2.1 ([101, 204, 129] : List UInt8)) fun r10 =>
 bif (!r10.2.1) then
 (Option.bind (sAll) fun r11 =>
 (Option.bind (sHas r11.2.1 ([] : List UInt8)) fun r12 =>
 bif (!r12.2.1) then
 (Option.bind (sMay r3.2.1) fun r13 =>
 bif r13.2.1 then
 (Option.bind (sNot r3.2.1) fun r14 =>
 (Option.bind (sEqual r14.2.1 r1.2.1) fun r15 =>
 bif r15.2.1 then
 (Option.bind (sEmpty (([] : List (Int × Int)), (([] : List (Int × Int)), ([] : List (List UInt8))))) fun r16 =>
 bif r16.2.1 then
 (Option.bind (sEmpty r1.2.1) fun r17 =>
 bif (!r17.2.1) then
 (Option.bind (sOnes [((97 : Int), (122 : Int))]) fun r18 =>
 (Option.bind (sHas r18.2.1 ([97] : List UInt8)) fun r19 =>
 bif r19.2.1 then
 (Option.bind (sUnion r1.2.1 r4.2.1) fun r20 =>
 (Option.bind (sHas r20.2.1 ([101, 204, 129] : List UInt8)) fun r21 =>
 bif r21.2.1 then
 (Option.bind (sMeet r2.2.1 r1.2.1) fun r22 =>
 (Option.bind (sHas r22.2.1 ([101, 204, 129] : List UInt8)) fun r23 =>
 bif r23.2.1 then
 (Option.bind (sNorm r1.2.1) fun r24 =>
 some ((), (((r24.2.1.2.2.length : Int) == (1 : Int)), ())))
 else
 some ((), (false, ()))))
 else
 some ((), (false, ()))))
 else
 some ((), (false, ()))))
 else
 some ((), (false, ())))
 else
 some ((), (false, ())))
 else
 some ((), (false, ()))))
 else
 some ((), (false, ())))
 else
 some ((), (false, ()))))
 else
 some ((), (false, ())))
 else
 some ((), (false, ())))
 else
 some ((), (false, ())))
 else
 some ((), (false, ())))
 else
 some ((), (false, ())))
 else
 some ((), (false, ())))
 else
 some ((), (false, ()))))))


def fixed_c : Ctr := ⟨[], [.val .bool], fun v => fixed⟩
def fixed_h : Nat → Option LH := fun i => none
def fixed_g : List (Nat × Ctr) := [(9, sNorm_c), (14, sMay_c), (15, sHas_c), (27, sOf_c), (23, sFirst_c), (28, sOnes_c), (21, sAll_c), (10, sUnion_c), (11, sMeet_c), (12, sMinus_c), (13, sNot_c), (19, sEqual_c), (20, sEmpty_c)]
theorem fixed_eq (v : PDen fixed_c.ps) : semF tbl (gam fixed_g) fixed_h fuelN 94 (bodyOf Tryz.f8) fixed_c.ps fixed_c.rs [0] [] v = fixed_c.g v := by kernel_rfl

/- 3: trema/tremalaw06.SegsetMembers -/
def lMembers_s18 (a7 : (List (Int × Int) × (List (Int × Int) × List (List UInt8)))) (a8 : (List (Int × Int) × (List (Int × Int) × List (List UInt8)))) (a9 : (List (Int × Int) × (List (Int × Int) × List (List UInt8)))) (a10 : (List (Int × Int) × (List (Int × Int) × List (List UInt8)))) (a11 : (List (Int × Int) × (List (Int × Int) × List (List UInt8)))) (a12 : (List (Int × Int) × (List (Int × Int) × List (List UInt8)))) (a60 : List (List UInt8)) (a61 : Int) (a62 : Int) : Option (((List (Int × Int) × (List (Int × Int) × List (List UInt8))) × ((List (Int × Int) × (List (Int × Int) × List (List UInt8))) × ((List (Int × Int) × (List (Int × Int) × List (List UInt8))) × ((List (Int × Int) × (List (Int × Int) × List (List UInt8))) × ((List (Int × Int) × (List (Int × Int) × List (List UInt8))) × ((List (Int × Int) × (List (Int × Int) × List (List UInt8))) × (List (List UInt8) × (Int × (Int × Unit))))))))) ⊕ ((Bool × Unit) ⊕ Unit)) :=
 bif (decide (a62 < a61)) then
 (Option.bind (lk a60 a62) fun _x19 =>
 (Option.bind (lk a60 a62) fun x20 =>
 (Option.bind (sHas a7 x20) fun r21 =>
 (Option.bind (sHas a8 x20) fun r22 =>
 (Option.bind (show Option (((List (Int × Int) × (List (Int × Int) × List (List UInt8))) × ((List (Int × Int) × (List (Int × Int) × List (List UInt8))) × ((List (Int × Int) × (List (Int × Int) × List (List UInt8))) × ((List (Int × Int) × (List (Int × Int) × List (List UInt8))) × ((List (Int × Int) × (List (Int × Int) × List (List UInt8))) × ((List (Int × Int) × (List (Int × Int) × List (List UInt8))) × (List (List UInt8) × (Int × (Int × Unit))))))))) ⊕ ((List (Int × Int) × (List (Int × Int) × List (List UInt8))) × ((List (Int × Int) × (List (Int × Int) × List (List UInt8))) × ((List (Int × Int) × (List (Int × Int) × List (List UInt8))) × ((List (Int × Int) × (List (Int × Int) × List (List UInt8))) × ((List (Int × Int) × (List (Int × Int) × List (List UInt8))) × ((List (Int × Int) × (List (Int × Int) × List (List UInt8))) × (List UInt8 × (Bool × (Bool × (List (List UInt8) × (Int × (Int × Unit))))))))))))) from
 (Option.bind (good6 x20) fun r24 =>
 bif (!r24.2.1) then
 some (.inl (a7, (a8, (a9, (a10, (a11, (a12, (a60, (a61, (a62, ()))))))))))
 else
 some (.inr (a7, (a8, (a9, (a10, (a11, (a12, (x20, (r21.2.1, (r22.2.1, (a60, (a61, (a62, ()))))))))))))))) fun y25 =>
 (match y25 with
 | .inl y25 =>
 some (.inl (y25.1, (y25.2.1, (y25.2.2.1, (y25.2.2.2.1, (y25.2.2.2.2.1, (y25.2.2.2.2.2.1, (y25.2.2.2.2.2.2.1, (y25.2.2.2.2.2.2.2.1, ((IntKind.i64.wrap (y25.2.2.2.2.2.2.2.2.1 + (1 : Int))), ()))))))))))
 | .inr y25 =>
 (Option.bind (has6 y25.1 y25.2.2.2.2.2.2.1) fun r26 =>
 bif (!(y25.2.2.2.2.2.2.2.1 == r26.2.1)) then
 some (.inr (.inl (false, ())))
 else
 (Option.bind (sHas y25.2.2.1 y25.2.2.2.2.2.2.1) fun r27 =>
 bif y25.2.2.2.2.2.2.2.1 then
 bif (!(r27.2.1 == true)) then
 some (.inr (.inl (false, ())))
 else
 (Option.bind (sHas y25.2.2.2.1 y25.2.2.2.2.2.2.1) fun r28 =>
 bif y25.2.2.2.2.2.2.2.1 then
 bif (!(r28.2.1 == y25.2.2.2.2.2.2.2.2.1)) then
 some (.inr (.inl (false, ())))
 else
 (Option.bind (sHas y25.2.2.2.2.1 y25.2.2.2.2.2.2.1) fun r29 =>
 bif y25.2.2.2.2.2.2.2.1 then
 bif (!(r29.2.1 == (!y25.2.2.2.2.2.2.2.2.1))) then
 some (.inr (.inl (false, ())))
 else
 (Option.bind (sHas y25.2.2.2.2.2.1 y25.2.2.2.2.2.2.1) fun r30 =>
 bif (!y25.2.2.2.2.2.2.2.1) then
 bif (!(r30.2.1 == (!(y25.2.2.2.2.2.2.1 == ([] : List UInt8))))) then
 some (.inr (.inl (false, ())))
 else
 some (.inl (y25.1, (y25.2.1, (y25.2.2.1, (y25.2.2.2.1, (y25.2.2.2.2.1, (y25.2.2.2.2.2.1, (y25.2.2.2.2.2.2.2.2.2.1, (y25.2.2.2.2.2.2.2.2.2.2.1, ((IntKind.i64.wrap (y25.2.2.2.2.2.2.2.2.2.2.2.1 + (1 : Int))), ()))))))))))
 else
 bif (!(r30.2.1 == false)) then
 some (.inr (.inl (false, ())))
 else
 some (.inl (y25.1, (y25.2.1, (y25.2.2.1, (y25.2.2.2.1, (y25.2.2.2.2.1, (y25.2.2.2.2.2.1, (y25.2.2.2.2.2.2.2.2.2.1, (y25.2.2.2.2.2.2.2.2.2.2.1, ((IntKind.i64.wrap (y25.2.2.2.2.2.2.2.2.2.2.2.1 + (1 : Int))), ())))))))))))
 else
 bif (!(r29.2.1 == false)) then
 some (.inr (.inl (false, ())))
 else
 (Option.bind (sHas y25.2.2.2.2.2.1 y25.2.2.2.2.2.2.1) fun r31 =>
 bif (!y25.2.2.2.2.2.2.2.1) then
 bif (!(r31.2.1 == (!(y25.2.2.2.2.2.2.1 == ([] : List UInt8))))) then
 some (.inr (.inl (false, ())))
 else
 some (.inl (y25.1, (y25.2.1, (y25.2.2.1, (y25.2.2.2.1, (y25.2.2.2.2.1, (y25.2.2.2.2.2.1, (y25.2.2.2.2.2.2.2.2.2.1, (y25.2.2.2.2.2.2.2.2.2.2.1, ((IntKind.i64.wrap (y25.2.2.2.2.2.2.2.2.2.2.2.1 + (1 : Int))), ()))))))))))
 else
 bif (!(r31.2.1 == false)) then
 some (.inr (.inl (false, ())))
 else
 some (.inl (y25.1, (y25.2.1, (y25.2.2.1, (y25.2.2.2.1, (y25.2.2.2.2.1, (y25.2.2.2.2.2.1, (y25.2.2.2.2.2.2.2.2.2.1, (y25.2.2.2.2.2.2.2.2.2.2.1, ((IntKind.i64.wrap (y25.2.2.2.2.2.2.2.2.2.2.2.1 + (1 : Int))), ()))))))))))))
 else
 bif (!(r28.2.1 == false)) then
 some (.inr (.inl (false, ())))
 else
 (Option.bind (sHas y25.2.2.2.2.1 y25.2.2.2.2.2.2.1) fun r32 =>
 bif y25.2.2.2.2.2.2.2.1 then
 bif (!(r32.2.1 == (!y25.2.2.2.2.2.2.2.2.1))) then
 some (.inr (.inl (false, ())))
 else
 (Option.bind (sHas y25.2.2.2.2.2.1 y25.2.2.2.2.2.2.1) fun r33 =>
 bif (!y25.2.2.2.2.2.2.2.1) then
 bif (!(r33.2.1 == (!(y25.2.2.2.2.2.2.1 == ([] : List UInt8))))) then
 some (.inr (.inl (false, ())))
 else
 some (.inl (y25.1, (y25.2.1, (y25.2.2.1, (y25.2.2.2.1, (y25.2.2.2.2.1, (y25.2.2.2.2.2.1, (y25.2.2.2.2.2.2.2.2.2.1, (y25.2.2.2.2.2.2.2.2.2.2.1, ((IntKind.i64.wrap (y25.2.2.2.2.2.2.2.2.2.2.2.1 + (1 : Int))), ()))))))))))
 else
 bif (!(r33.2.1 == false)) then
 some (.inr (.inl (false, ())))
 else
 some (.inl (y25.1, (y25.2.1, (y25.2.2.1, (y25.2.2.2.1, (y25.2.2.2.2.1, (y25.2.2.2.2.2.1, (y25.2.2.2.2.2.2.2.2.2.1, (y25.2.2.2.2.2.2.2.2.2.2.1, ((IntKind.i64.wrap (y25.2.2.2.2.2.2.2.2.2.2.2.1 + (1 : Int))), ())))))))))))
 else
 bif (!(r32.2.1 == false)) then
 some (.inr (.inl (false, ())))
 else
 (Option.bind (sHas y25.2.2.2.2.2.1 y25.2.2.2.2.2.2.1) fun r34 =>
 bif (!y25.2.2.2.2.2.2.2.1) then
 bif (!(r34.2.1 == (!(y25.2.2.2.2.2.2.1 == ([] : List UInt8))))) then
 some (.inr (.inl (false, ())))
 else
 some (.inl (y25.1, (y25.2.1, (y25.2.2.1, (y25.2.2.2.1, (y25.2.2.2.2.1, (y25.2.2.2.2.2.1, (y25.2.2.2.2.2.2.2.2.2.1, (y25.2.2.2.2.2.2.2.2.2.2.1, ((IntKind.i64.wrap (y25.2.2.2.2.2.2.2.2.2.2.2.1 + (1 : Int))), ()))))))))))
 else
 bif (!(r34.2.1 == false)) then
 some (.inr (.inl (false, ())))
 else
 some (.inl (y25.1, (y25.2.1, (y25.2.2.1, (y25.2.2.2.1, (y25.2.2.2.2.1, (y25.2.2.2.2.2.1, (y25.2.2.2.2.2.2.2.2.2.1, (y25.2.2.2.2.2.2.2.2.2.2.1, ((IntKind.i64.wrap (y25.2.2.2.2.2.2.2.2.2.2.2.1 + (1 : Int))), ())))))))))))))
 else
 bif (!(r27.2.1 == y25.2.2.2.2.2.2.2.2.1)) then
 some (.inr (.inl (false, ())))
 else
 (Option.bind (sHas y25.2.2.2.1 y25.2.2.2.2.2.2.1) fun r35 =>
 bif y25.2.2.2.2.2.2.2.1 then
 bif (!(r35.2.1 == y25.2.2.2.2.2.2.2.2.1)) then
 some (.inr (.inl (false, ())))
 else
 (Option.bind (sHas y25.2.2.2.2.1 y25.2.2.2.2.2.2.1) fun r36 =>
 bif y25.2.2.2.2.2.2.2.1 then
 bif (!(r36.2.1 == (!y25.2.2.2.2.2.2.2.2.1))) then
 some (.inr (.inl (false, ())))
 else
 (Option.bind (sHas y25.2.2.2.2.2.1 y25.2.2.2.2.2.2.1) fun r37 =>
 bif (!y25.2.2.2.2.2.2.2.1) then
 bif (!(r37.2.1 == (!(y25.2.2.2.2.2.2.1 == ([] : List UInt8))))) then
 some (.inr (.inl (false, ())))
 else
 some (.inl (y25.1, (y25.2.1, (y25.2.2.1, (y25.2.2.2.1, (y25.2.2.2.2.1, (y25.2.2.2.2.2.1, (y25.2.2.2.2.2.2.2.2.2.1, (y25.2.2.2.2.2.2.2.2.2.2.1, ((IntKind.i64.wrap (y25.2.2.2.2.2.2.2.2.2.2.2.1 + (1 : Int))), ()))))))))))
 else
 bif (!(r37.2.1 == false)) then
 some (.inr (.inl (false, ())))
 else
 some (.inl (y25.1, (y25.2.1, (y25.2.2.1, (y25.2.2.2.1, (y25.2.2.2.2.1, (y25.2.2.2.2.2.1, (y25.2.2.2.2.2.2.2.2.2.1, (y25.2.2.2.2.2.2.2.2.2.2.1, ((IntKind.i64.wrap (y25.2.2.2.2.2.2.2.2.2.2.2.1 + (1 : Int))), ())))))))))))
 else
 bif (!(r36.2.1 == false)) then
 some (.inr (.inl (false, ())))
 else
 (Option.bind (sHas y25.2.2.2.2.2.1 y25.2.2.2.2.2.2.1) fun r38 =>
 bif (!y25.2.2.2.2.2.2.2.1) then
 bif (!(r38.2.1 == (!(y25.2.2.2.2.2.2.1 == ([] : List UInt8))))) then
 some (.inr (.inl (false, ())))
 else
 some (.inl (y25.1, (y25.2.1, (y25.2.2.1, (y25.2.2.2.1, (y25.2.2.2.2.1, (y25.2.2.2.2.2.1, (y25.2.2.2.2.2.2.2.2.2.1, (y25.2.2.2.2.2.2.2.2.2.2.1, ((IntKind.i64.wrap (y25.2.2.2.2.2.2.2.2.2.2.2.1 + (1 : Int))), ()))))))))))
 else
 bif (!(r38.2.1 == false)) then
 some (.inr (.inl (false, ())))
 else
 some (.inl (y25.1, (y25.2.1, (y25.2.2.1, (y25.2.2.2.1, (y25.2.2.2.2.1, (y25.2.2.2.2.2.1, (y25.2.2.2.2.2.2.2.2.2.1, (y25.2.2.2.2.2.2.2.2.2.2.1, ((IntKind.i64.wrap (y25.2.2.2.2.2.2.2.2.2.2.2.1 + (1 : Int))), ()))))))))))))
 else
 bif (!(r35.2.1 == false)) then
 some (.inr (.inl (false, ())))
 else
 (Option.bind (sHas y25.2.2.2.2.1 y25.2.2.2.2.2.2.1) fun r39 =>
 bif y25.2.2.2.2.2.2.2.1 then
 bif (!(r39.2.1 == (!y25.2.2.2.2.2.2.2.2.1))) then
 some (.inr (.inl (false, ())))
 else
 (Option.bind (sHas y25.2.2.2.2.2.1 y25.2.2.2.2.2.2.1) fun r40 =>
 bif (!y25.2.2.2.2.2.2.2.1) then
 bif (!(r40.2.1 == (!(y25.2.2.2.2.2.2.1 == ([] : List UInt8))))) then
 some (.inr (.inl (false, ())))
 else
 some (.inl (y25.1, (y25.2.1, (y25.2.2.1, (y25.2.2.2.1, (y25.2.2.2.2.1, (y25.2.2.2.2.2.1, (y25.2.2.2.2.2.2.2.2.2.1, (y25.2.2.2.2.2.2.2.2.2.2.1, ((IntKind.i64.wrap (y25.2.2.2.2.2.2.2.2.2.2.2.1 + (1 : Int))), ()))))))))))
 else
 bif (!(r40.2.1 == false)) then
 some (.inr (.inl (false, ())))
 else
 some (.inl (y25.1, (y25.2.1, (y25.2.2.1, (y25.2.2.2.1, (y25.2.2.2.2.1, (y25.2.2.2.2.2.1, (y25.2.2.2.2.2.2.2.2.2.1, (y25.2.2.2.2.2.2.2.2.2.2.1, ((IntKind.i64.wrap (y25.2.2.2.2.2.2.2.2.2.2.2.1 + (1 : Int))), ())))))))))))
 else
 bif (!(r39.2.1 == false)) then
 some (.inr (.inl (false, ())))
 else
 (Option.bind (sHas y25.2.2.2.2.2.1 y25.2.2.2.2.2.2.1) fun r41 =>
 bif (!y25.2.2.2.2.2.2.2.1) then
 bif (!(r41.2.1 == (!(y25.2.2.2.2.2.2.1 == ([] : List UInt8))))) then
 some (.inr (.inl (false, ())))
 else
 some (.inl (y25.1, (y25.2.1, (y25.2.2.1, (y25.2.2.2.1, (y25.2.2.2.2.1, (y25.2.2.2.2.2.1, (y25.2.2.2.2.2.2.2.2.2.1, (y25.2.2.2.2.2.2.2.2.2.2.1, ((IntKind.i64.wrap (y25.2.2.2.2.2.2.2.2.2.2.2.1 + (1 : Int))), ()))))))))))
 else
 bif (!(r41.2.1 == false)) then
 some (.inr (.inl (false, ())))
 else
 some (.inl (y25.1, (y25.2.1, (y25.2.2.1, (y25.2.2.2.1, (y25.2.2.2.2.1, (y25.2.2.2.2.2.1, (y25.2.2.2.2.2.2.2.2.2.1, (y25.2.2.2.2.2.2.2.2.2.2.1, ((IntKind.i64.wrap (y25.2.2.2.2.2.2.2.2.2.2.2.1 + (1 : Int))), ())))))))))))))))))))))
 else
 some (.inr (.inr ()))

def lMembers (p0 : (List (Int × Int) × (List (Int × Int) × List (List UInt8)))) (p1 : (List (Int × Int) × (List (Int × Int) × List (List UInt8)))) (p2 : List (List UInt8)) : Option (Unit × (Bool × Unit)) :=
 (Option.bind (show Option ((Bool × Unit) ⊕ (List (List UInt8) × ((List (Int × Int) × (List (Int × Int) × List (List UInt8))) × ((List (Int × Int) × (List (Int × Int) × List (List UInt8))) × Unit)))) from
 (Option.bind (fixed) fun r2 =>
 bif (!r2.2.1) then
 some (.inl (false, ()))
 else
 some (.inr (p2, (p0, (p1, ())))))) fun y3 =>
 (match y3 with
 | .inl y3 =>
 some ((), (y3.1, ()))
 | .inr y3 =>
 (Option.bind (sNorm y3.2.1) fun r4 =>
 (Option.bind (sNorm y3.2.2.1) fun r5 =>
 (Option.bind (sUnion y3.2.1 y3.2.2.1) fun r6 =>
 (Option.bind (sMeet y3.2.1 y3.2.2.1) fun r7 =>
 (Option.bind (sMinus y3.2.1 y3.2.2.1) fun r8 =>
 (Option.bind (sNot y3.2.1) fun r9 =>
 (Option.bind (show Option ((Bool × Unit) ⊕ (List (List UInt8) × ((List (Int × Int) × (List (Int × Int) × List (List UInt8))) × ((List (Int × Int) × (List (Int × Int) × List (List UInt8))) × ((List (Int × Int) × (List (Int × Int) × List (List UInt8))) × ((List (Int × Int) × (List (Int × Int) × List (List UInt8))) × ((List (Int × Int) × (List (Int × Int) × List (List UInt8))) × ((List (Int × Int) × (List (Int × Int) × List (List UInt8))) × Unit)))))))) from
 (Option.bind (sMay r6.2.1) fun r11 =>
 bif (!r11.2.1) then
 some (.inl (false, ()))
 else
 (Option.bind (sMay r7.2.1) fun r12 =>
 bif (!r12.2.1) then
 some (.inl (false, ()))
 else
 (Option.bind (sMay r8.2.1) fun r13 =>
 bif (!r13.2.1) then
 some (.inl (false, ()))
 else
 (Option.bind (sMay r9.2.1) fun r14 =>
 bif (!r14.2.1) then
 some (.inl (false, ()))
 else
 some (.inr (y3.1, (r4.2.1, (r5.2.1, (r6.2.1, (r7.2.1, (r8.2.1, (r9.2.1, ()))))))))))))) fun y15 =>
 (match y15 with
 | .inl y15 =>
 some ((), (y15.1, ()))
 | .inr y15 =>
 bif (roomOk (([] : List (List UInt8)).length + y15.1.length) 16) then
 bif (roomOk ((([] : List (List UInt8)) ++ y15.1).length + y15.2.1.2.2.length) 16) then
 bif (roomOk (((([] : List (List UInt8)) ++ y15.1) ++ y15.2.1.2.2).length + y15.2.2.1.2.2.length) 16) then
 let l16 := (((([] : List (List UInt8)) ++ y15.1) ++ y15.2.1.2.2) ++ y15.2.2.1.2.2)
 (Option.bind (iterN (fun x => lMembers_s18 x.1 x.2.1 x.2.2.1 x.2.2.2.1 x.2.2.2.2.1 x.2.2.2.2.2.1 x.2.2.2.2.2.2.1 x.2.2.2.2.2.2.2.1 x.2.2.2.2.2.2.2.2.1) fuelN (y15.2.1, (y15.2.2.1, (y15.2.2.2.1, (y15.2.2.2.2.1, (y15.2.2.2.2.2.1, (y15.2.2.2.2.2.2.1, (l16, ((l16.length : Int), ((0 : Int), ())))))))))) fun y42 =>
 (match y42 with
 | .inl y42 =>
 some ((), (y42.1, ()))
 | .inr y42 =>
 some ((), (true, ()))))
 else none
 else none
 else none))))))))))


def lMembers_c : Ctr := ⟨[.ro y2, .ro y2, .ro (.slice .str)], [.val .bool], fun v => lMembers v.1 v.2.1 v.2.2.1⟩
def lMembers_h : Nat → Option LH := fun i => if i = 8 then some ⟨⟨[(7, (.bx y1)), (8, (.bx y1)), (9, (.bx y1)), (10, (.bx y1)), (11, (.bx y1)), (12, (.bx y1)), (60, (.vec .str)), (61, yi64), (62, yi64)], []⟩, [(.ret, ⟨[(6, .bool)], []⟩), ((.exit 0), ⟨[], []⟩)]⟩ else if i = 1110012 then some ⟨⟨[], []⟩, [((.exit 1), ⟨[(7, (.bx y1)), (8, (.bx y1)), (9, (.bx y1)), (10, (.bx y1)), (11, (.bx y1)), (12, (.bx y1)), (60, (.vec .str)), (61, yi64), (62, yi64)], []⟩), (.normal, ⟨[(7, (.bx y1)), (8, (.bx y1)), (9, (.bx y1)), (10, (.bx y1)), (11, (.bx y1)), (12, (.bx y1)), (14, .str), (15, .bool), (16, .bool), (60, (.vec .str)), (61, yi64), (62, yi64)], []⟩)]⟩ else if i = 1050007 then some ⟨⟨[], []⟩, [(.ret, ⟨[(6, .bool)], []⟩), (.normal, ⟨[(2, (.slice .str)), (7, (.bx y1)), (8, (.bx y1)), (9, (.bx y1)), (10, (.bx y1)), (11, (.bx y1)), (12, (.bx y1))], []⟩)]⟩ else if i = 1010003 then some ⟨⟨[], []⟩, [(.ret, ⟨[(6, .bool)], []⟩), (.normal, ⟨[(2, (.slice .str)), (3, (.bx y2)), (4, (.bx y2))], []⟩)]⟩ else none
def lMembers_g : List (Nat × Ctr) := [(9, sNorm_c), (14, sMay_c), (15, sHas_c), (10, sUnion_c), (11, sMeet_c), (12, sMinus_c), (13, sNot_c), (16, good6_c), (17, has6_c), (8, fixed_c)]
theorem lMembers_eq (v : PDen lMembers_c.ps) : semF tbl (gam lMembers_g) lMembers_h fuelN 124 (bodyOf Tryz.f3) lMembers_c.ps lMembers_c.rs [6] [] v = lMembers_c.g v := by kernel_rfl

/- 4: trema/tremalaw06.SegsetAlgebra -/
def lAlgebra (p0 : (List (Int × Int) × (List (Int × Int) × List (List UInt8)))) (p1 : (List (Int × Int) × (List (Int × Int) × List (List UInt8)))) (p2 : (List (Int × Int) × (List (Int × Int) × List (List UInt8)))) : Option (Unit × (Bool × Unit)) :=
 (Option.bind (show Option ((Bool × Unit) ⊕ ((List (Int × Int) × (List (Int × Int) × List (List UInt8))) × ((List (Int × Int) × (List (Int × Int) × List (List UInt8))) × ((List (Int × Int) × (List (Int × Int) × List (List UInt8))) × Unit)))) from
 (Option.bind (fixed) fun r2 =>
 bif (!r2.2.1) then
 some (.inl (false, ()))
 else
 some (.inr (p0, (p1, (p2, ())))))) fun y3 =>
 (match y3 with
 | .inl y3 =>
 some ((), (y3.1, ()))
 | .inr y3 =>
 (Option.bind (sUnion y3.1 y3.2.1) fun r4 =>
 (Option.bind (sMeet y3.1 y3.2.1) fun r5 =>
 (Option.bind (sNot y3.1) fun r6 =>
 (Option.bind (sNot r6.2.1) fun r7 =>
 (Option.bind (sNorm y3.1) fun r8 =>
 (Option.bind (same6 r7.2.1 r8.2.1) fun r9 =>
 bif r9.2.1 then
 (Option.bind (sNot r4.2.1) fun r10 =>
 (Option.bind (sNot y3.1) fun r11 =>
 (Option.bind (sNot y3.2.1) fun r12 =>
 (Option.bind (sMeet r11.2.1 r12.2.1) fun r13 =>
 (Option.bind (sEqual r10.2.1 r13.2.1) fun r14 =>
 bif r14.2.1 then
 (Option.bind (sUnion r5.2.1 y3.2.2.1) fun r15 =>
 (Option.bind (sUnion y3.1 y3.2.2.1) fun r16 =>
 (Option.bind (sUnion y3.2.1 y3.2.2.1) fun r17 =>
 (Option.bind (sMeet r16.2.1 r17.2.1) fun r18 =>
 (Option.bind (sEqual r15.2.1 r18.2.1) fun r19 =>
 bif r19.2.1 then
 (Option.bind (sUnion y3.2.1 y3.1) fun r20 =>
 (Option.bind (sEqual r4.2.1 r20.2.1) fun r21 =>
 bif r21.2.1 then
 (Option.bind (sNot y3.1) fun r22 =>
 (Option.bind (sMeet y3.1 r22.2.1) fun r23 =>
 (Option.bind (sEmpty r23.2.1) fun r24 =>
 bif r24.2.1 then
 (Option.bind (sNot y3.1) fun r25 =>
 (Option.bind (sUnion y3.1 r25.2.1) fun r26 =>
 (Option.bind (sAll) fun r27 =>
 (Option.bind (sEqual r26.2.1 r27.2.1) fun r28 =>
 bif r28.2.1 then
 (Option.bind (sMinus y3.1 y3.2.1) fun r29 =>
 (Option.bind (sMinus y3.1 r5.2.1) fun r30 =>
 (Option.bind (sEqual r29.2.1 r30.2.1) fun r31 =>
 some ((), (r31.2.1, ())))))
 else
 some ((), (false, ()))))))
 else
 some ((), (false, ())))))
 else
 some ((), (false, ()))))
 else
 some ((), (false, ())))))))
 else
 some ((), (false, ())))))))
 else
 some ((), (false, ()))))))))))


def lAlgebra_c : Ctr := ⟨[.ro y2, .ro y2, .ro y2], [.val .bool], fun v => lAlgebra v.1 v.2.1 v.2.2.1⟩
def lAlgebra_h : Nat → Option LH := fun i => if i = 1010003 then some ⟨⟨[], []⟩, [(.ret, ⟨[(6, .bool)], []⟩), (.normal, ⟨[(3, (.bx y2)), (4, (.bx y2)), (5, (.bx y2))], []⟩)]⟩ else none
def lAlgebra_g : List (Nat × Ctr) := [(9, sNorm_c), (21, sAll_c), (10, sUnion_c), (11, sMeet_c), (12, sMinus_c), (13, sNot_c), (19, sEqual_c), (20, sEmpty_c), (18, same6_c), (8, fixed_c)]
theorem lAlgebra_eq (v : PDen lAlgebra_c.ps) : semF tbl (gam lAlgebra_g) lAlgebra_h fuelN 77 (bodyOf Tryz.f4) lAlgebra_c.ps lAlgebra_c.rs [6] [] v = lAlgebra_c.g v := by kernel_rfl

/- 6: trema/tremalaw06.SegsetTexts -/
def lTexts_s7 (a0 : List (List UInt8)) (a1 : List (List UInt8)) (a5 : (List (Int × Int) × (List (Int × Int) × List (List UInt8)))) (a15 : List (List UInt8)) (a16 : Int) (a17 : Int) : Option ((List (List UInt8) × (List (List UInt8) × ((List (Int × Int) × (List (Int × Int) × List (List UInt8))) × (List (List UInt8) × (Int × (Int × Unit)))))) ⊕ (List (List UInt8) × (List (List UInt8) × ((List (Int × Int) × (List (Int × Int) × List (List UInt8))) × Unit)))) :=
 bif (decide (a17 < a16)) then
 (Option.bind (lk a15 a17) fun x8 =>
 (Option.bind (sOf x8) fun r9 =>
 (Option.bind (sUnion a5 r9.2.1) fun r10 =>
 some (.inl (a0, (a1, (r10.2.1, (a15, (a16, ((IntKind.i64.wrap (a17 + (1 : Int))), ()))))))))))
 else
 some (.inr (a0, (a1, (a5, ()))))

def lTexts_s21 (a0 : List (List UInt8)) (a5 : (List (Int × Int) × (List (Int × Int) × List (List UInt8)))) (a9 : List UInt8) (a10 : Bool) (a30 : List (List UInt8)) (a31 : Int) (a32 : Int) (a36 : List (List UInt8)) (a37 : Int) (a38 : Int) : Option ((List (List UInt8) × ((List (Int × Int) × (List (Int × Int) × List (List UInt8))) × (List UInt8 × (Bool × (List (List UInt8) × (Int × (Int × (List (List UInt8) × (Int × (Int × Unit)))))))))) ⊕ (List (List UInt8) × ((List (Int × Int) × (List (Int × Int) × List (List UInt8))) × (List UInt8 × (Bool × (List (List UInt8) × (Int × (Int × Unit)))))))) :=
 bif (decide (a38 < a37)) then
 (Option.bind (lk a36 a38) fun x22 =>
 bif a10 then
 some (.inl (a0, (a5, (a9, (true, (a30, (a31, (a32, (a36, (a37, ((IntKind.i64.wrap (a38 + (1 : Int))), ())))))))))))
 else
 bif (x22 == a9) then
 some (.inl (a0, (a5, (a9, ((!(a9 == ([] : List UInt8))), (a30, (a31, (a32, (a36, (a37, ((IntKind.i64.wrap (a38 + (1 : Int))), ())))))))))))
 else
 some (.inl (a0, (a5, (a9, (false, (a30, (a31, (a32, (a36, (a37, ((IntKind.i64.wrap (a38 + (1 : Int))), ()))))))))))))
 else
 some (.inr (a0, (a5, (a9, (a10, (a30, (a31, (a32, ()))))))))

def lTexts_s16 (a0 : List (List UInt8)) (a5 : (List (Int × Int) × (List (Int × Int) × List (List UInt8)))) (a30 : List (List UInt8)) (a31 : Int) (a32 : Int) : Option ((List (List UInt8) × ((List (Int × Int) × (List (Int × Int) × List (List UInt8))) × (List (List UInt8) × (Int × (Int × Unit))))) ⊕ ((Bool × Unit) ⊕ ((List (Int × Int) × (List (Int × Int) × List (List UInt8))) × Unit))) :=
 bif (decide (a32 < a31)) then
 (Option.bind (lk a30 a32) fun _x17 =>
 (Option.bind (lk a30 a32) fun x18 =>
 (Option.bind (show Option (List (List UInt8) × ((List (Int × Int) × (List (Int × Int) × List (List UInt8))) × (List UInt8 × (Bool × (List (List UInt8) × (Int × (Int × Unit))))))) from
 (Option.bind (iterN (fun x => lTexts_s21 x.1 x.2.1 x.2.2.1 x.2.2.2.1 x.2.2.2.2.1 x.2.2.2.2.2.1 x.2.2.2.2.2.2.1 x.2.2.2.2.2.2.2.1 x.2.2.2.2.2.2.2.2.1 x.2.2.2.2.2.2.2.2.2.1) fuelN (a0, (a5, (x18, (false, (a30, (a31, (a32, (a0, ((a0.length : Int), ((0 : Int), ()))))))))))) fun y23 =>
 some (y23.1, (y23.2.1, (y23.2.2.1, (y23.2.2.2.1, (y23.2.2.2.2.1, (y23.2.2.2.2.2.1, (y23.2.2.2.2.2.2.1, ()))))))))) fun y24 =>
 (Option.bind (good6 y24.2.2.1) fun r25 =>
 bif r25.2.1 then
 (Option.bind (sHas y24.2.1 y24.2.2.1) fun r26 =>
 bif (!(r26.2.1 == y24.2.2.2.1)) then
 some (.inr (.inl (false, ())))
 else
 some (.inl (y24.1, (y24.2.1, (y24.2.2.2.2.1, (y24.2.2.2.2.2.1, ((IntKind.i64.wrap (y24.2.2.2.2.2.2.1 + (1 : Int))), ())))))))
 else
 some (.inl (y24.1, (y24.2.1, (y24.2.2.2.2.1, (y24.2.2.2.2.2.1, ((IntKind.i64.wrap (y24.2.2.2.2.2.2.1 + (1 : Int))), ()))))))))))
 else
 some (.inr (.inr (a5, ())))

def lTexts (p0 : List (List UInt8)) (p1 : List (List UInt8)) : Option (Unit × (Bool × Unit)) :=
 (Option.bind (show Option ((Bool × Unit) ⊕ (List (List UInt8) × (List (List UInt8) × Unit))) from
 (Option.bind (fixed) fun r2 =>
 bif (!r2.2.1) then
 some (.inl (false, ()))
 else
 some (.inr (p0, (p1, ()))))) fun y3 =>
 (match y3 with
 | .inl y3 =>
 some ((), (y3.1, ()))
 | .inr y3 =>
 (Option.bind (show Option (List (List UInt8) × (List (List UInt8) × ((List (Int × Int) × (List (Int × Int) × List (List UInt8))) × Unit))) from
 (Option.bind (iterN (fun x => lTexts_s7 x.1 x.2.1 x.2.2.1 x.2.2.2.1 x.2.2.2.2.1 x.2.2.2.2.2.1) fuelN (y3.1, (y3.2.1, ((([] : List (Int × Int)), (([] : List (Int × Int)), ([] : List (List UInt8)))), (y3.1, ((y3.1.length : Int), ((0 : Int), ()))))))) fun y11 =>
 some (y11.1, (y11.2.1, (y11.2.2.1, ()))))) fun y12 =>
 (Option.bind (show Option ((Bool × Unit) ⊕ ((List (Int × Int) × (List (Int × Int) × List (List UInt8))) × Unit)) from
 bif (roomOk (([] : List (List UInt8)).length + y12.2.1.length) 16) then
 bif (roomOk ((([] : List (List UInt8)) ++ y12.2.1).length + y12.1.length) 16) then
 let v14 := (((([] : List (List UInt8)) ++ y12.2.1) ++ y12.1).length : Int)
 (Option.bind (iterN (fun x => lTexts_s16 x.1 x.2.1 x.2.2.1 x.2.2.2.1 x.2.2.2.2.1) fuelN (y12.1, (y12.2.2.1, (((([] : List (List UInt8)) ++ y12.2.1) ++ y12.1), (v14, ((0 : Int), ())))))) fun y27 =>
 (match y27 with
 | .inl y27 =>
 some (.inl (y27.1, ()))
 | .inr y27 =>
 some (.inr (y27.1, ()))))
 else none
 else none) fun y28 =>
 (match y28 with
 | .inl y28 =>
 some ((), (y28.1, ()))
 | .inr y28 =>
 (Option.bind (sMay y28.1) fun r29 =>
 some ((), (r29.2.1, ()))))))))


def lTexts_c : Ctr := ⟨[.ro (.slice .str), .ro (.slice .str)], [.val .bool], fun v => lTexts v.1 v.2.1⟩
def lTexts_h : Nat → Option LH := fun i => if i = 1090021 then some ⟨⟨[], []⟩, [(.ret, ⟨[(4, .bool)], []⟩), (.normal, ⟨[(5, (.bx y1))], []⟩)]⟩ else if i = 10 then some ⟨⟨[(0, (.slice .str)), (5, (.bx y1)), (30, (.vec .str)), (31, yi64), (32, yi64)], []⟩, [(.ret, ⟨[(4, .bool)], []⟩), ((.exit 2), ⟨[(5, (.bx y1))], []⟩)]⟩ else if i = 1130018 then some ⟨⟨[], []⟩, [(.normal, ⟨[(0, (.slice .str)), (5, (.bx y1)), (9, .str), (10, .bool), (30, (.vec .str)), (31, yi64), (32, yi64)], []⟩)]⟩ else if i = 14 then some ⟨⟨[(0, (.slice .str)), (5, (.bx y1)), (9, .str), (10, .bool), (30, (.vec .str)), (31, yi64), (32, yi64), (36, (.slice .str)), (37, yi64), (38, yi64)], []⟩, [((.exit 4), ⟨[(0, (.slice .str)), (5, (.bx y1)), (9, .str), (10, .bool), (30, (.vec .str)), (31, yi64), (32, yi64)], []⟩)]⟩ else if i = 1040009 then some ⟨⟨[], []⟩, [(.normal, ⟨[(0, (.slice .str)), (1, (.slice .str)), (5, (.bx y1))], []⟩)]⟩ else if i = 5 then some ⟨⟨[(0, (.slice .str)), (1, (.slice .str)), (5, (.bx y1)), (15, (.slice .str)), (16, yi64), (17, yi64)], []⟩, [((.exit 0), ⟨[(0, (.slice .str)), (1, (.slice .str)), (5, (.bx y1))], []⟩)]⟩ else if i = 1010003 then some ⟨⟨[], []⟩, [(.ret, ⟨[(4, .bool)], []⟩), (.normal, ⟨[(0, (.slice .str)), (1, (.slice .str))], []⟩)]⟩ else none
def lTexts_g : List (Nat × Ctr) := [(14, sMay_c), (15, sHas_c), (27, sOf_c), (10, sUnion_c), (16, good6_c), (8, fixed_c)]
theorem lTexts_eq (v : PDen lTexts_c.ps) : semF tbl (gam lTexts_g) lTexts_h fuelN 65 (bodyOf Tryz.f6) lTexts_c.ps lTexts_c.rs [4] [] v = lTexts_c.g v := by kernel_rfl

/- 7: trema/tremalaw06.SegsetFirsts -/
def lFirsts_s8 (a0 : List (Int × Int)) (a5 : (List (Int × Int) × (List (Int × Int) × List (List UInt8)))) (a6 : (List (Int × Int) × (List (Int × Int) × List (List UInt8)))) (a17 : List (List UInt8)) (a18 : Int) (a19 : Int) : Option ((List (Int × Int) × ((List (Int × Int) × (List (Int × Int) × List (List UInt8))) × ((List (Int × Int) × (List (Int × Int) × List (List UInt8))) × (List (List UInt8) × (Int × (Int × Unit)))))) ⊕ ((Bool × Unit) ⊕ ((List (Int × Int) × (List (Int × Int) × List (List UInt8))) × ((List (Int × Int) × (List (Int × Int) × List (List UInt8))) × Unit)))) :=
 bif (decide (a19 < a18)) then
 (Option.bind (lk a17 a19) fun x9 =>
 (Option.bind (runes1 (u8s x9)) fun r10 =>
 (Option.bind (show Option (List (Int × Int) × ((List (Int × Int) × (List (Int × Int) × List (List UInt8))) × ((List (Int × Int) × (List (Int × Int) × List (List UInt8))) × (List UInt8 × (List Int × (Bool × (List (List UInt8) × (Int × (Int × Unit))))))))) from
 bif (decide ((r10.2.1.length : Int) > (0 : Int))) then
 (Option.bind (sFirst a0) fun r12 =>
 bif (inB (0 : Int) (1 : Int) r10.2.1.length) then
 (Option.bind (encode1 (((r10.2.1).drop (0 : Int).toNat).take ((1 : Int) - (0 : Int)).toNat)) fun r13 =>
 (Option.bind (sHas r12.2.1 (s8u r13.2.1)) fun r14 =>
 some (a0, (a5, (a6, (x9, (r10.2.1, (r14.2.1, (a17, (a18, (a19, ())))))))))))
 else none)
 else
 some (a0, (a5, (a6, (x9, (r10.2.1, (false, (a17, (a18, (a19, ())))))))))) fun y15 =>
 (Option.bind (sHas y15.2.1 y15.2.2.2.1) fun r16 =>
 bif (!(r16.2.1 == y15.2.2.2.2.2.1)) then
 some (.inr (.inl (false, ())))
 else
 (Option.bind (sHas y15.2.2.1 y15.2.2.2.1) fun r17 =>
 bif y15.2.2.2.2.2.1 then
 bif (!(r17.2.1 == ((y15.2.2.2.2.1.length : Int) == (1 : Int)))) then
 some (.inr (.inl (false, ())))
 else
 (Option.bind (sNot y15.2.1) fun r18 =>
 (Option.bind (sHas r18.2.1 y15.2.2.2.1) fun r19 =>
 bif (!y15.2.2.2.2.2.1) then
 let v20 := (!(r19.2.1 == (decide ((y15.2.2.2.2.1.length : Int) > (0 : Int)))))
 bif v20 then
 some (.inr (.inl (false, ())))
 else
 some (.inl (y15.1, (y15.2.1, (y15.2.2.1, (y15.2.2.2.2.2.2.1, (y15.2.2.2.2.2.2.2.1, ((IntKind.i64.wrap (y15.2.2.2.2.2.2.2.2.1 + (1 : Int))), ())))))))
 else
 bif (!(r19.2.1 == false)) then
 some (.inr (.inl (false, ())))
 else
 some (.inl (y15.1, (y15.2.1, (y15.2.2.1, (y15.2.2.2.2.2.2.1, (y15.2.2.2.2.2.2.2.1, ((IntKind.i64.wrap (y15.2.2.2.2.2.2.2.2.1 + (1 : Int))), ())))))))))
 else
 bif (!(r17.2.1 == false)) then
 some (.inr (.inl (false, ())))
 else
 (Option.bind (sNot y15.2.1) fun r21 =>
 (Option.bind (sHas r21.2.1 y15.2.2.2.1) fun r22 =>
 bif (!y15.2.2.2.2.2.1) then
 let v23 := (!(r22.2.1 == (decide ((y15.2.2.2.2.1.length : Int) > (0 : Int)))))
 bif v23 then
 some (.inr (.inl (false, ())))
 else
 some (.inl (y15.1, (y15.2.1, (y15.2.2.1, (y15.2.2.2.2.2.2.1, (y15.2.2.2.2.2.2.2.1, ((IntKind.i64.wrap (y15.2.2.2.2.2.2.2.2.1 + (1 : Int))), ())))))))
 else
 bif (!(r22.2.1 == false)) then
 some (.inr (.inl (false, ())))
 else
 some (.inl (y15.1, (y15.2.1, (y15.2.2.1, (y15.2.2.2.2.2.2.1, (y15.2.2.2.2.2.2.2.1, ((IntKind.i64.wrap (y15.2.2.2.2.2.2.2.2.1 + (1 : Int))), ()))))))))))))))
 else
 some (.inr (.inr (a5, (a6, ()))))

def lFirsts (p0 : List (Int × Int)) (p1 : List (List UInt8)) : Option (Unit × (Bool × Unit)) :=
 (Option.bind (show Option ((Bool × Unit) ⊕ (List (Int × Int) × (List (List UInt8) × Unit))) from
 (Option.bind (fixed) fun r2 =>
 bif (!r2.2.1) then
 some (.inl (false, ()))
 else
 some (.inr (p0, (p1, ()))))) fun y3 =>
 (match y3 with
 | .inl y3 =>
 some ((), (y3.1, ()))
 | .inr y3 =>
 (Option.bind (sFirst y3.1) fun r4 =>
 (Option.bind (sOnes y3.1) fun r5 =>
 (Option.bind (show Option ((Bool × Unit) ⊕ ((List (Int × Int) × (List (Int × Int) × List (List UInt8))) × ((List (Int × Int) × (List (Int × Int) × List (List UInt8))) × Unit))) from
 (Option.bind (iterN (fun x => lFirsts_s8 x.1 x.2.1 x.2.2.1 x.2.2.2.1 x.2.2.2.2.1 x.2.2.2.2.2.1) fuelN (y3.1, (r4.2.1, (r5.2.1, (y3.2.1, ((y3.2.1.length : Int), ((0 : Int), ()))))))) fun y24 =>
 (match y24 with
 | .inl y24 =>
 some (.inl (y24.1, ()))
 | .inr y24 =>
 some (.inr (y24.1, (y24.2.1, ())))))) fun y25 =>
 (match y25 with
 | .inl y25 =>
 some ((), (y25.1, ()))
 | .inr y25 =>
 (Option.bind (sUnion y25.1 y25.2.1) fun r26 =>
 (Option.bind (sEqual r26.2.1 y25.1) fun r27 =>
 bif r27.2.1 then
 (Option.bind (sMeet y25.1 y25.2.1) fun r28 =>
 (Option.bind (sEqual r28.2.1 y25.2.1) fun r29 =>
 some ((), (r29.2.1, ()))))
 else
 some ((), (false, ()))))))))))


def lFirsts_c : Ctr := ⟨[.ro (.slice y0), .ro (.slice .str)], [.val .bool], fun v => lFirsts v.1 v.2.1⟩
def lFirsts_h : Nat → Option LH := fun i => if i = 1040012 then some ⟨⟨[], []⟩, [(.ret, ⟨[(4, .bool)], []⟩), (.normal, ⟨[(5, (.bx y1)), (6, (.bx y1))], []⟩)]⟩ else if i = 5 then some ⟨⟨[(0, (.slice y0)), (5, (.bx y1)), (6, (.bx y1)), (17, (.slice .str)), (18, yi64), (19, yi64)], []⟩, [(.ret, ⟨[(4, .bool)], []⟩), ((.exit 0), ⟨[(5, (.bx y1)), (6, (.bx y1))], []⟩)]⟩ else if i = 1080009 then some ⟨⟨[], []⟩, [(.normal, ⟨[(0, (.slice y0)), (5, (.bx y1)), (6, (.bx y1)), (8, .str), (9, (.vec yi32)), (10, .bool), (17, (.slice .str)), (18, yi64), (19, yi64)], []⟩)]⟩ else if i = 1010003 then some ⟨⟨[], []⟩, [(.ret, ⟨[(4, .bool)], []⟩), (.normal, ⟨[(0, (.slice y0)), (1, (.slice .str))], []⟩)]⟩ else none
def lFirsts_g : List (Nat × Ctr) := [(15, sHas_c), (23, sFirst_c), (28, sOnes_c), (10, sUnion_c), (11, sMeet_c), (13, sNot_c), (19, sEqual_c), (29, runes1_c), (30, encode1_c), (8, fixed_c)]
theorem lFirsts_eq (v : PDen lFirsts_c.ps) : semF tbl (gam lFirsts_g) lFirsts_h fuelN 82 (bodyOf Tryz.f7) lFirsts_c.ps lFirsts_c.rs [4] [] v = lFirsts_c.g v := by kernel_rfl

end
end Go.Vt.Sg
