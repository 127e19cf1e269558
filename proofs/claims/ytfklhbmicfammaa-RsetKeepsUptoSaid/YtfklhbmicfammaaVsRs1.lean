/- Values' functions of the program, printed, and that each body computes its own. -/
import Derived.Test.YtfklhbmicfammaaVsSort4
import Derived.Test.YtfklhbmicfammaaProg
set_option linter.unusedVariables false
set_option maxRecDepth 100000
namespace Go.Vs.Rs
noncomputable section
open Go Go.Vs Go.Proofs

def i_less (x y : Int) : Option (Unit × (Bool × Unit)) := some ((), (decide (x < y), ()))
def i_less_c : Ctr := ⟨[.ro (.int IntKind.i32), .ro (.int IntKind.i32)], [.val .bool], fun v => i_less v.1 v.2.1⟩
def cmpv (x y : Int) : Int := if x < y then -1 else if x > y then 1 else 0
def c_cmp (p q : Int × Int) : Option (Unit × (Int × Unit)) := some ((), (cmpv p.1 q.1, ()))
def c_cmp_c : Ctr := ⟨[.ro (.st (.pair (.int IntKind.i32) (.int IntKind.i32))), .ro (.st (.pair (.int IntKind.i32) (.int IntKind.i32)))], [.val (.int IntKind.i64)], fun v => c_cmp v.1 v.2.1⟩
def c_less (p q : Int × Int) : Option (Unit × (Bool × Unit)) := some ((), (decide (cmpv p.1 q.1 < 0), ()))
def i_pdqR_cR (rec : List Int → Int → Int → Int → Option (List Int × Unit)) : Ctr := ⟨[.mut (.int IntKind.i32), .ro (.int IntKind.i64), .ro (.int IntKind.i64), .ro (.int IntKind.i64)], [], fun v => rec v.1 v.2.1 v.2.2.1 v.2.2.2.1⟩
def c_pdqR_cR (rec : List (Int × Int) → Int → Int → Int → Option (List (Int × Int) × Unit)) : Ctr := ⟨[.mut (.st (.pair (.int IntKind.i32) (.int IntKind.i32))), .ro (.int IntKind.i64), .ro (.int IntKind.i64), .ro (.int IntKind.i64), .ro (.clo 30 .unit)], [], fun v => rec v.1 v.2.1 v.2.2.1 v.2.2.2.1⟩
def refSorted_cR (rec : List (Int × Int) → Option (Unit × (List (Int × Int) × Unit))) : Ctr := ⟨[.ro (.slice (.st (.pair (.int IntKind.i32) (.int IntKind.i32))))], [.val (.slice (.st (.pair (.int IntKind.i32) (.int IntKind.i32))))], fun v => rec v.1⟩
def sortI (l : List Int) : Option (List Int × Unit) := Srt.sortG (Srt.pdqN i_less (l.length + 1)) l
def sortI_c : Ctr := ⟨[.mut (.int IntKind.i32)], [], fun v => sortI v.1⟩
def sortF (l : List (Int × Int)) : Option (List (Int × Int) × Unit) := Srt.sortG (Srt.pdqN c_less (l.length + 1)) l
def sortF_c : Ctr := ⟨[.mut (.st (.pair (.int IntKind.i32) (.int IntKind.i32))), .ro (.clo 30 .unit)], [], fun v => sortF v.1⟩

def tbl : Tab := [
  (3, ⟨1, 8, false, (.int IntKind.i64), (.int IntKind.i64), ((0 : Int) : Int), false⟩),
  (4, ⟨1, 1, false, .bool, .bool, (false : Bool), false⟩),
  (5, ⟨1, 1, false, (.int IntKind.u8), (.int IntKind.u8), ((0 : Int) : Int), false⟩),
  (9, ⟨1, 16, false, .str, .str, ([] : List UInt8), false⟩),
  (21, ⟨1, 4, false, (.int IntKind.i32), (.int IntKind.i32), ((0 : Int) : Int), false⟩),
  (22, ⟨1, 24, false, (.slice 26), (.slice (.st (.pair (.int IntKind.i32) (.int IntKind.i32)))), ([] : List (Int × Int)), false⟩),
  (26, ⟨2, 8, true, (.struct [(0, 21), (1, 21)]), (.st (.pair (.int IntKind.i32) (.int IntKind.i32))), (((0 : Int), (0 : Int)) : (Int × Int)), true⟩),
  (31, ⟨1, 24, false, (.slice 21), (.slice (.int IntKind.i32)), ([] : List Int), false⟩),
  (32, ⟨1, 24, false, (.slice 22), (.slice (.slice (.st (.pair (.int IntKind.i32) (.int IntKind.i32))))), ([] : List (List (Int × Int))), false⟩),
  (36, ⟨1, 8, false, (.int IntKind.u64), (.int IntKind.u64), ((0 : Int) : Int), false⟩),
  (42, ⟨1, 8, false, .other, .any, (() : Unit), false⟩),
  (44, ⟨1, 8, true, (.struct [(0, 42)]), (.st .any), (() : Unit), true⟩),
  (55, ⟨1, 8, false, (.int IntKind.i64), (.int IntKind.i64), ((0 : Int) : Int), false⟩),
  (65, ⟨1, 8, false, (.int IntKind.u64), (.int IntKind.u64), ((0 : Int) : Int), false⟩),
  (68, ⟨1, 8, false, (.int IntKind.u64), (.int IntKind.u64), ((0 : Int) : Int), false⟩)]

/- 42: cmp.isNaN[int32] -/
def isNaN (p0 : Int) : Option (Unit × (Bool × Unit)) :=
 some ((), ((p0 != p0), ()))


def isNaN_c : Ctr := ⟨[.ro (.int IntKind.i32)], [.val .bool], fun v => isNaN v.1⟩
def isNaN_h : Nat → Option LH := fun i => none
def isNaN_g : List (Nat × Ctr) := []
theorem isNaN_eq (v : PDen isNaN_c.ps) : semF tbl (gam isNaN_g) isNaN_h fuelN 6 (bodyOf Try.f42) isNaN_c.ps isNaN_c.rs [2] v = isNaN_c.g v := by kernel_rfl

/- 70: cmp.Less[int32] -/
def cmpLess (p0 : Int) (p1 : Int) : Option (Unit × (Bool × Unit)) :=
 (Option.bind (isNaN p0) fun r1 =>
 bif r1.2.1 then
 (Option.bind (isNaN p1) fun r2 =>
 bif (!r2.2.1) then
 some ((), (true, ()))
 else
 some ((), ((decide (p0 < p1)), ())))
 else
 some ((), ((decide (p0 < p1)), ())))


def cmpLess_c : Ctr := ⟨[.ro (.int IntKind.i32), .ro (.int IntKind.i32)], [.val .bool], fun v => cmpLess v.1 v.2.1⟩
def cmpLess_h : Nat → Option LH := fun i => none
def cmpLess_g : List (Nat × Ctr) := [(42, isNaN_c)]
theorem cmpLess_eq (v : PDen cmpLess_c.ps) : semF tbl (gam cmpLess_g) cmpLess_h fuelN 17 (bodyOf Try.f70) cmpLess_c.ps cmpLess_c.rs [4] v = cmpLess_c.g v := by kernel_rfl

/- 31: cmp.Compare[int32] -/
def cmpCompare (p0 : Int) (p1 : Int) : Option (Unit × (Int × Unit)) :=
 (Option.bind (isNaN p0) fun r1 =>
 (Option.bind (isNaN p1) fun r2 =>
 (Option.bind (show Option (((Int × Unit) × Unit) ⊕ ((Int × (Int × (Bool × Unit))) × Unit)) from
 bif r1.2.1 then
 bif r2.2.1 then
 some (.inl (((0 : Int), ()), ()))
 else
 some (.inl (((-1 : Int), ()), ()))
 else
 some (.inr ((p0, (p1, (r2.2.1, ()))), ()))) fun y4 =>
 (match y4 with
 | .inl y4 =>
 some ((), (y4.1.1, ()))
 | .inr y4 =>
 (Option.bind (show Option (((Int × Unit) × Unit) ⊕ ((Int × (Int × Unit)) × Unit)) from
 bif y4.1.2.2.1 then
 some (.inl (((1 : Int), ()), ()))
 else
 some (.inr ((y4.1.1, (y4.1.2.1, ())), ()))) fun y6 =>
 (match y6 with
 | .inl y6 =>
 some ((), (y6.1.1, ()))
 | .inr y6 =>
 (Option.bind (show Option (((Int × Unit) × Unit) ⊕ ((Int × (Int × Unit)) × Unit)) from
 bif (decide (y6.1.1 < y6.1.2.1)) then
 some (.inl (((-1 : Int), ()), ()))
 else
 some (.inr ((y6.1.1, (y6.1.2.1, ())), ()))) fun y8 =>
 (match y8 with
 | .inl y8 =>
 some ((), (y8.1.1, ()))
 | .inr y8 =>
 bif (decide (y8.1.1 > y8.1.2.1)) then
 some ((), ((1 : Int), ()))
 else
 some ((), ((0 : Int), ()))))))))))


def cmpCompare_c : Ctr := ⟨[.ro (.int IntKind.i32), .ro (.int IntKind.i32)], [.val (.int IntKind.i64)], fun v => cmpCompare v.1 v.2.1⟩
def cmpCompare_h : Nat → Option LH := fun i => if i = 1090011 then some ⟨⟨[], [], []⟩, [(.ret, ⟨[(4, (.int IntKind.i64))], [], []⟩), (.normal, ⟨[(0, (.int IntKind.i32)), (1, (.int IntKind.i32))], [], []⟩)]⟩ else if i = 1070009 then some ⟨⟨[], [], []⟩, [(.ret, ⟨[(4, (.int IntKind.i64))], [], []⟩), (.normal, ⟨[(0, (.int IntKind.i32)), (1, (.int IntKind.i32))], [], []⟩)]⟩ else if i = 1030007 then some ⟨⟨[], [], []⟩, [(.ret, ⟨[(4, (.int IntKind.i64))], [], []⟩), (.normal, ⟨[(0, (.int IntKind.i32)), (1, (.int IntKind.i32)), (6, .bool)], [], []⟩)]⟩ else none
def cmpCompare_g : List (Nat × Ctr) := [(42, isNaN_c)]
theorem cmpCompare_eq (v : PDen cmpCompare_c.ps) : semF tbl (gam cmpCompare_g) cmpCompare_h fuelN 20 (bodyOf Try.f31) cmpCompare_c.ps cmpCompare_c.rs [4] v = cmpCompare_c.g v := by kernel_rfl

/- 30: trema/rset.Norm$1 -/
def normLess (p0 : (Int × Int)) (p1 : (Int × Int)) : Option (Unit × (Int × Unit)) :=
 (Option.bind (cmpCompare p0.1 p1.1) fun r1 =>
 some ((), (r1.2.1, ())))


def normLess_c : Ctr := ⟨[.ro (.st (.pair (.int IntKind.i32) (.int IntKind.i32))), .ro (.st (.pair (.int IntKind.i32) (.int IntKind.i32)))], [.val (.int IntKind.i64)], fun v => normLess v.1 v.2.1⟩
def normLess_h : Nat → Option LH := fun i => none
def normLess_g : List (Nat × Ctr) := [(31, cmpCompare_c)]
theorem normLess_eq (v : PDen normLess_c.ps) : semF tbl (gam normLess_g) normLess_h fuelN 10 (bodyOf Try.f30) normLess_c.ps normLess_c.rs [4] v = normLess_c.g v := by kernel_rfl

/- 45: slices.Compact[[]int32,int32] -/
def compactI_s14 (a3 : Int) (a4 : (Nat × Nat)) (a5 : Int) (g0 : List Int) : Option (((Int × ((Nat × Nat) × (Int × Unit))) × (List Int × Unit)) ⊕ ((Int × Unit) × (List Int × Unit))) :=
 (Option.bind (show Option (((Int × ((Nat × Nat) × (Int × Unit))) × (List Int × Unit)) ⊕ ((Int × Unit) × (List Int × Unit))) from
 bif (decide (a5 < (a4.2 : Int))) then
 some (.inl ((a3, (a4, (a5, ()))), (g0, ())))
 else
 some (.inr ((a3, ()), (g0, ())))) fun y16 =>
 (match y16 with
 | .inl y16 =>
 (Option.bind (show Option ((Int × ((Nat × Nat) × (Int × Unit))) × (List Int × Unit)) from
 bif (inR y16.1.2.2.1 y16.1.2.1.2) then
 (Option.bind (lk y16.2.1 (plusI y16.1.2.1.1 y16.1.2.2.1)) fun x18 =>
 bif (inR (IntKind.i64.wrap (y16.1.2.2.1 - (1 : Int))) y16.1.2.1.2) then
 let v19 := (plusI y16.1.2.1.1 (IntKind.i64.wrap (y16.1.2.2.1 - (1 : Int))))
 (Option.bind (lk y16.2.1 v19) fun x20 =>
 bif (x18 != x20) then
 bif (inR y16.1.2.2.1 y16.1.2.1.2) then
 (Option.bind (lk y16.2.1 (plusI y16.1.2.1.1 y16.1.2.2.1)) fun x21 =>
 (Option.bind (lk y16.2.1 y16.1.1) fun _x22 =>
 (Option.bind (lk y16.2.1 y16.1.1) fun x23 =>
 some (((IntKind.i64.wrap (y16.1.1 + (1 : Int))), (y16.1.2.1, (y16.1.2.2.1, ()))), ((y16.2.1.set y16.1.1.toNat x21), ())))))
 else none
 else
 some ((y16.1.1, (y16.1.2.1, (y16.1.2.2.1, ()))), (y16.2.1, ())))
 else none)
 else none) fun y24 =>
 some (.inl ((y24.1.1, (y24.1.2.1, ((IntKind.i64.wrap (y24.1.2.2.1 + (1 : Int))), ()))), (y24.2.1, ()))))
 | .inr y16 =>
 some (.inr ((y16.1.1, ()), (y16.2.1, ())))))

def compactI_s4 (a3 : Int) (g0 : List Int) : Option (((Int × Unit) × (List Int × Unit)) ⊕ ((Unit × (List Int × Unit)) ⊕ (Unit × (List Int × Unit)))) :=
 (Option.bind (show Option (((Int × Unit) × (List Int × Unit)) ⊕ (Unit × (List Int × Unit))) from
 bif (decide (a3 < (g0.length : Int))) then
 some (.inl ((a3, ()), (g0, ())))
 else
 some (.inr ((), (g0, ())))) fun y6 =>
 (match y6 with
 | .inl y6 =>
 (Option.bind (show Option ((Unit × (List Int × Unit)) ⊕ ((Int × Unit) × (List Int × Unit))) from
 (Option.bind (lk y6.2.1 y6.1.1) fun _x8 =>
 (Option.bind (lk y6.2.1 y6.1.1) fun x9 =>
 (Option.bind (lk y6.2.1 (IntKind.i64.wrap (y6.1.1 - (1 : Int)))) fun _x10 =>
 (Option.bind (lk y6.2.1 (IntKind.i64.wrap (y6.1.1 - (1 : Int)))) fun x11 =>
 bif (x9 == x11) then
 bif (inB y6.1.1 (y6.2.1.length : Int) y6.2.1.length) then
 (Option.bind (show Option ((Int × Unit) × (List Int × Unit)) from
 (Option.bind (iterN (fun x => compactI_s14 x.1.1 x.1.2.1 x.1.2.2.1 x.2.1) fuelN ((y6.1.1, ((y6.1.1.toNat, ((y6.2.1.length : Int) - y6.1.1).toNat), ((1 : Int), ()))), (y6.2.1, ()))) fun y25 =>
 some ((y25.1.1, ()), (y25.2.1, ())))) fun y26 =>
 bif (inB y26.1.1 (y26.2.1.length : Int) y26.2.1.length) then
 let l27 := (clrL y26.2.1 y26.1.1.toNat ((y26.2.1.length : Int) - y26.1.1).toNat (0 : Int))
 bif (inB (0 : Int) y26.1.1 l27.length) then
 some (.inl ((), ((((l27).drop (0 : Int).toNat).take (y26.1.1 - (0 : Int)).toNat), ())))
 else none
 else none)
 else none
 else
 some (.inr ((y6.1.1, ()), (y6.2.1, ())))))))) fun y28 =>
 (match y28 with
 | .inl y28 =>
 some (.inr (.inl ((), (y28.2.1, ()))))
 | .inr y28 =>
 some (.inl (((IntKind.i64.wrap (y28.1.1 + (1 : Int))), ()), (y28.2.1, ())))))
 | .inr y6 =>
 some (.inr (.inr ((), (y6.2.1, ()))))))

def compactI (p0 : List Int) : Option (Unit × (List Int × Unit)) :=
 (Option.bind (show Option ((Unit × (List Int × Unit)) ⊕ (Unit × (List Int × Unit))) from
 bif (decide ((p0.length : Int) < (2 : Int))) then
 some (.inl ((), (p0, ())))
 else
 some (.inr ((), (p0, ())))) fun y2 =>
 (match y2 with
 | .inl y2 =>
 some ((), (y2.2.1, ()))
 | .inr y2 =>
 (Option.bind (iterN (fun x => compactI_s4 x.1.1 x.2.1) fuelN (((1 : Int), ()), (y2.2.1, ()))) fun y29 =>
 (match y29 with
 | .inl y29 =>
 some ((), (y29.2.1, ()))
 | .inr y29 =>
 some ((), (y29.2.1, ()))))))


def compactI_c : Ctr := ⟨[.own (.int IntKind.i32)], [.own (.int IntKind.i32)], fun v => compactI v.1⟩
def compactI_h : Nat → Option LH := fun i => if i = 4 then some ⟨⟨[(0, (.ow 0)), (3, (.int IntKind.i64))], [(0, (.int IntKind.i32))], []⟩, [(.ret, ⟨[(2, (.ow 0))], [(2, (.int IntKind.i32))], []⟩), ((.exit 0), ⟨[(0, (.ow 0))], [(0, (.int IntKind.i32))], []⟩)]⟩ else if i = 1060005 then some ⟨⟨[], [], []⟩, [(.ret, ⟨[(2, (.ow 0))], [(2, (.int IntKind.i32))], []⟩), (.normal, ⟨[(0, (.ow 0)), (3, (.int IntKind.i64))], [(0, (.int IntKind.i32))], []⟩)]⟩ else if i = 1080014 then some ⟨⟨[], [], []⟩, [(.normal, ⟨[(0, (.ow 0)), (3, (.int IntKind.i64))], [(0, (.int IntKind.i32))], []⟩)]⟩ else if i = 9 then some ⟨⟨[(0, (.ow 0)), (3, (.int IntKind.i64)), (4, (.osl 0)), (5, (.int IntKind.i64))], [(0, (.int IntKind.i32))], []⟩, [((.exit 2), ⟨[(0, (.ow 0)), (3, (.int IntKind.i64))], [(0, (.int IntKind.i32))], []⟩)]⟩ else if i = 1110010 then some ⟨⟨[], [], []⟩, [(.normal, ⟨[(0, (.ow 0)), (3, (.int IntKind.i64)), (4, (.osl 0)), (5, (.int IntKind.i64))], [(0, (.int IntKind.i32))], []⟩)]⟩ else if i = 1090011 then some ⟨⟨[], [], []⟩, [(.normal, ⟨[(0, (.ow 0)), (3, (.int IntKind.i64)), (4, (.osl 0)), (5, (.int IntKind.i64))], [(0, (.int IntKind.i32))], []⟩), ((.exit 2), ⟨[(0, (.ow 0)), (3, (.int IntKind.i64))], [(0, (.int IntKind.i32))], []⟩)]⟩ else if i = 1040006 then some ⟨⟨[], [], []⟩, [(.normal, ⟨[(0, (.ow 0)), (3, (.int IntKind.i64))], [(0, (.int IntKind.i32))], []⟩), ((.exit 0), ⟨[(0, (.ow 0))], [(0, (.int IntKind.i32))], []⟩)]⟩ else if i = 1010003 then some ⟨⟨[], [], []⟩, [(.ret, ⟨[(2, (.ow 0))], [(2, (.int IntKind.i32))], []⟩), (.normal, ⟨[(0, (.ow 0))], [(0, (.int IntKind.i32))], []⟩)]⟩ else none
def compactI_g : List (Nat × Ctr) := []
theorem compactI_eq (v : PDen compactI_c.ps) : semF tbl (gam compactI_g) compactI_h fuelN 61 (bodyOf Try.f45) compactI_c.ps compactI_c.rs [2] v = compactI_c.g v := by kernel_rfl

/- 56: i_len64 -/
def i_len64_c : Ctr := ⟨[.ro (.int IntKind.u64)], [.val (.int IntKind.i64)], fun v => Srt.len64 v.1⟩
def i_len64_h : Nat → Option LH := fun i => if i = 1070010 then some ⟨⟨[], [], []⟩, [(.normal, ⟨[(0, (.int IntKind.u64)), (2, (.int IntKind.i64))], [], []⟩)]⟩ else if i = 1040007 then some ⟨⟨[], [], []⟩, [(.normal, ⟨[(0, (.int IntKind.u64)), (2, (.int IntKind.i64))], [], []⟩)]⟩ else if i = 1010004 then some ⟨⟨[], [], []⟩, [(.normal, ⟨[(0, (.int IntKind.u64)), (2, (.int IntKind.i64))], [], []⟩)]⟩ else none
def i_len64_g : List (Nat × Ctr) := []
theorem i_len64_eq (v : PDen i_len64_c.ps) : semF tbl (gam i_len64_g) i_len64_h fuelN 25 (bodyOf Try.f56) i_len64_c.ps i_len64_c.rs [2] v = i_len64_c.g v := by kernel_rfl

/- 41: i_bitsLen -/
def i_bitsLen_c : Ctr := ⟨[.ro (.int IntKind.u64)], [.val (.int IntKind.i64)], fun v => Srt.bitsLen v.1⟩
def i_bitsLen_h : Nat → Option LH := fun i => if i = 1010002 then some ⟨⟨[], [], []⟩, [(.normal, ⟨[(0, (.int IntKind.u64))], [], []⟩)]⟩ else none
def i_bitsLen_g : List (Nat × Ctr) := [(56, i_len64_c)]
theorem i_bitsLen_eq (v : PDen i_bitsLen_c.ps) : semF tbl (gam i_bitsLen_g) i_bitsLen_h fuelN 8 (bodyOf Try.f41) i_bitsLen_c.ps i_bitsLen_c.rs [2] v = i_bitsLen_c.g v := by kernel_rfl

/- 60: i_nextPow -/
def i_nextPow_c : Ctr := ⟨[.ro (.int IntKind.i64)], [.val (.int IntKind.u64)], fun v => Srt.nextPow v.1⟩
def i_nextPow_h : Nat → Option LH := fun i => none
def i_nextPow_g : List (Nat × Ctr) := [(41, i_bitsLen_c)]
theorem i_nextPow_eq (v : PDen i_nextPow_c.ps) : semF tbl (gam i_nextPow_g) i_nextPow_h fuelN 7 (bodyOf Try.f60) i_nextPow_c.ps i_nextPow_c.rs [2] v = i_nextPow_c.g v := by kernel_rfl

/- 61: i_xorNext -/
def i_xorNext_c : Ctr := ⟨[.mutp (.int IntKind.u64)], [.val (.int IntKind.u64)], fun v => Srt.xorNext v.1⟩
def i_xorNext_h : Nat → Option LH := fun i => none
def i_xorNext_g : List (Nat × Ctr) := []
theorem i_xorNext_eq (v : PDen i_xorNext_c.ps) : semF tbl (gam i_xorNext_g) i_xorNext_h fuelN 33 (bodyOf Try.f61) i_xorNext_c.ps i_xorNext_c.rs [2] v = i_xorNext_c.g v := by kernel_rfl

/- 64: i_insSort -/
def i_insSort_c : Ctr := ⟨[.mut (.int IntKind.i32), .ro (.int IntKind.i64), .ro (.int IntKind.i64)], [], fun v => Srt.insSort i_less v.1 v.2.1 v.2.2.1⟩
def i_insSort_h : Nat → Option LH := fun i => if i = 1 then some ⟨⟨[(0, (.ow 0)), (1, (.int IntKind.i64)), (2, (.int IntKind.i64)), (6, (.int IntKind.i64))], [(0, (.int IntKind.i32))], []⟩, [((.exit 0), ⟨[(0, (.ow 0))], [(0, (.int IntKind.i32))], []⟩)]⟩ else if i = 1030002 then some ⟨⟨[], [], []⟩, [(.normal, ⟨[(0, (.ow 0)), (1, (.int IntKind.i64)), (2, (.int IntKind.i64)), (6, (.int IntKind.i64))], [(0, (.int IntKind.i32))], []⟩)]⟩ else if i = 4 then some ⟨⟨[(0, (.ow 0)), (1, (.int IntKind.i64)), (2, (.int IntKind.i64)), (6, (.int IntKind.i64)), (7, (.int IntKind.i64))], [(0, (.int IntKind.i32))], []⟩, [((.exit 2), ⟨[(0, (.ow 0)), (1, (.int IntKind.i64)), (2, (.int IntKind.i64)), (6, (.int IntKind.i64))], [(0, (.int IntKind.i32))], []⟩)]⟩ else if i = 1060005 then some ⟨⟨[], [], []⟩, [(.normal, ⟨[(0, (.ow 0)), (1, (.int IntKind.i64)), (2, (.int IntKind.i64)), (6, (.int IntKind.i64)), (7, (.int IntKind.i64))], [(0, (.int IntKind.i32))], []⟩)]⟩ else if i = 1040006 then some ⟨⟨[], [], []⟩, [(.normal, ⟨[(0, (.ow 0)), (1, (.int IntKind.i64)), (2, (.int IntKind.i64)), (6, (.int IntKind.i64)), (7, (.int IntKind.i64))], [(0, (.int IntKind.i32))], []⟩), ((.exit 2), ⟨[(0, (.ow 0)), (1, (.int IntKind.i64)), (2, (.int IntKind.i64)), (6, (.int IntKind.i64))], [(0, (.int IntKind.i32))], []⟩)]⟩ else if i = 1010003 then some ⟨⟨[], [], []⟩, [(.normal, ⟨[(0, (.ow 0)), (1, (.int IntKind.i64)), (2, (.int IntKind.i64)), (6, (.int IntKind.i64))], [(0, (.int IntKind.i32))], []⟩), ((.exit 0), ⟨[(0, (.ow 0))], [(0, (.int IntKind.i32))], []⟩)]⟩ else none
def i_insSort_g : List (Nat × Ctr) := [(70, i_less_c)]
theorem i_insSort_eq (v : PDen i_insSort_c.ps) : semF tbl (gam i_insSort_g) i_insSort_h fuelN 49 (bodyOf Try.f64) i_insSort_c.ps i_insSort_c.rs [] v = i_insSort_c.g v := by kernel_rfl

/- 74: i_siftDown -/
def i_siftDown_c : Ctr := ⟨[.mut (.int IntKind.i32), .ro (.int IntKind.i64), .ro (.int IntKind.i64), .ro (.int IntKind.i64)], [], fun v => Srt.siftDown i_less v.1 v.2.1 v.2.2.1 v.2.2.2.1⟩
def i_siftDown_h : Nat → Option LH := fun i => if i = 1 then some ⟨⟨[(0, (.ow 0)), (2, (.int IntKind.i64)), (3, (.int IntKind.i64)), (8, (.int IntKind.i64))], [(0, (.int IntKind.i32))], []⟩, [((.exit 0), ⟨[(0, (.ow 0))], [(0, (.int IntKind.i32))], []⟩), (.ret, ⟨[(0, (.ow 0))], [(0, (.int IntKind.i32))], []⟩)]⟩ else if i = 1050006 then some ⟨⟨[], [], []⟩, [(.ret, ⟨[(0, (.ow 0))], [(0, (.int IntKind.i32))], []⟩), (.normal, ⟨[(0, (.ow 0)), (2, (.int IntKind.i64)), (3, (.int IntKind.i64)), (8, (.int IntKind.i64)), (9, (.int IntKind.i64))], [(0, (.int IntKind.i32))], []⟩)]⟩ else if i = 1030005 then some ⟨⟨[], [], []⟩, [(.normal, ⟨[(0, (.ow 0)), (2, (.int IntKind.i64)), (3, (.int IntKind.i64)), (8, (.int IntKind.i64)), (9, (.int IntKind.i64))], [(0, (.int IntKind.i32))], []⟩)]⟩ else if i = 1030004 then some ⟨⟨[], [], []⟩, [(.normal, ⟨[(0, (.ow 0)), (2, (.int IntKind.i64)), (3, (.int IntKind.i64)), (8, (.int IntKind.i64)), (9, (.int IntKind.i64)), (36, .bool)], [(0, (.int IntKind.i32))], []⟩)]⟩ else if i = 1020003 then some ⟨⟨[], [], []⟩, [((.exit 0), ⟨[(0, (.ow 0))], [(0, (.int IntKind.i32))], []⟩), (.normal, ⟨[(0, (.ow 0)), (2, (.int IntKind.i64)), (3, (.int IntKind.i64)), (8, (.int IntKind.i64)), (9, (.int IntKind.i64))], [(0, (.int IntKind.i32))], []⟩)]⟩ else none
def i_siftDown_g : List (Nat × Ctr) := [(70, i_less_c)]
theorem i_siftDown_eq (v : PDen i_siftDown_c.ps) : semF tbl (gam i_siftDown_g) i_siftDown_h fuelN 76 (bodyOf Try.f74) i_siftDown_c.ps i_siftDown_c.rs [] v = i_siftDown_c.g v := by kernel_rfl

/- 65: i_heapSort -/
def i_heapSort_c : Ctr := ⟨[.mut (.int IntKind.i32), .ro (.int IntKind.i64), .ro (.int IntKind.i64)], [], fun v => Srt.heapSort i_less v.1 v.2.1 v.2.2.1⟩
def i_heapSort_h : Nat → Option LH := fun i => if i = 8 then some ⟨⟨[(0, (.ow 0)), (6, (.int IntKind.i64)), (7, (.int IntKind.i64)), (10, (.int IntKind.i64))], [(0, (.int IntKind.i32))], []⟩, [((.exit 2), ⟨[(0, (.ow 0))], [(0, (.int IntKind.i32))], []⟩)]⟩ else if i = 1100009 then some ⟨⟨[], [], []⟩, [(.normal, ⟨[(0, (.ow 0)), (6, (.int IntKind.i64)), (7, (.int IntKind.i64)), (10, (.int IntKind.i64))], [(0, (.int IntKind.i32))], []⟩)]⟩ else if i = 1080010 then some ⟨⟨[], [], []⟩, [(.normal, ⟨[(0, (.ow 0)), (6, (.int IntKind.i64)), (7, (.int IntKind.i64)), (10, (.int IntKind.i64))], [(0, (.int IntKind.i32))], []⟩), ((.exit 2), ⟨[(0, (.ow 0))], [(0, (.int IntKind.i32))], []⟩)]⟩ else if i = 1030007 then some ⟨⟨[], [], []⟩, [(.normal, ⟨[(0, (.ow 0)), (6, (.int IntKind.i64)), (7, (.int IntKind.i64)), (8, (.int IntKind.i64))], [(0, (.int IntKind.i32))], []⟩)]⟩ else if i = 4 then some ⟨⟨[(0, (.ow 0)), (6, (.int IntKind.i64)), (7, (.int IntKind.i64)), (8, (.int IntKind.i64)), (9, (.int IntKind.i64))], [(0, (.int IntKind.i32))], []⟩, [((.exit 0), ⟨[(0, (.ow 0)), (6, (.int IntKind.i64)), (7, (.int IntKind.i64)), (8, (.int IntKind.i64))], [(0, (.int IntKind.i32))], []⟩)]⟩ else if i = 1060005 then some ⟨⟨[], [], []⟩, [(.normal, ⟨[(0, (.ow 0)), (6, (.int IntKind.i64)), (7, (.int IntKind.i64)), (8, (.int IntKind.i64)), (9, (.int IntKind.i64))], [(0, (.int IntKind.i32))], []⟩)]⟩ else if i = 1040006 then some ⟨⟨[], [], []⟩, [(.normal, ⟨[(0, (.ow 0)), (6, (.int IntKind.i64)), (7, (.int IntKind.i64)), (8, (.int IntKind.i64)), (9, (.int IntKind.i64))], [(0, (.int IntKind.i32))], []⟩), ((.exit 0), ⟨[(0, (.ow 0)), (6, (.int IntKind.i64)), (7, (.int IntKind.i64)), (8, (.int IntKind.i64))], [(0, (.int IntKind.i32))], []⟩)]⟩ else none
def i_heapSort_g : List (Nat × Ctr) := [(74, i_siftDown_c)]
theorem i_heapSort_eq (v : PDen i_heapSort_c.ps) : semF tbl (gam i_heapSort_g) i_heapSort_h fuelN 56 (bodyOf Try.f65) i_heapSort_c.ps i_heapSort_c.rs [] v = i_heapSort_c.g v := by kernel_rfl

/- 66: i_breakPat -/
def i_breakPat_c : Ctr := ⟨[.mut (.int IntKind.i32), .ro (.int IntKind.i64), .ro (.int IntKind.i64)], [], fun v => Srt.breakPat v.1 v.2.1 v.2.2.1⟩
def i_breakPat_h : Nat → Option LH := fun i => if i = 5 then some ⟨⟨[(0, (.ow 0)), (1, (.int IntKind.i64)), (6, (.int IntKind.i64)), (7, (.oad 1 0)), (8, (.int IntKind.u64)), (9, (.int IntKind.i64))], [(0, (.int IntKind.i32)), (7, (.int IntKind.u64))], []⟩, [((.exit 0), ⟨[(0, (.ow 0))], [(0, (.int IntKind.i32))], []⟩)]⟩ else if i = 1070006 then some ⟨⟨[], [], []⟩, [(.normal, ⟨[(0, (.ow 0)), (1, (.int IntKind.i64)), (6, (.int IntKind.i64)), (7, (.oad 1 0)), (8, (.int IntKind.u64)), (9, (.int IntKind.i64))], [(0, (.int IntKind.i32)), (7, (.int IntKind.u64))], []⟩)]⟩ else if i = 1080010 then some ⟨⟨[], [], []⟩, [(.normal, ⟨[(0, (.ow 0)), (1, (.int IntKind.i64)), (6, (.int IntKind.i64)), (7, (.oad 1 0)), (8, (.int IntKind.u64)), (9, (.int IntKind.i64)), (10, (.int IntKind.i64))], [(0, (.int IntKind.i32)), (7, (.int IntKind.u64))], []⟩)]⟩ else if i = 1050007 then some ⟨⟨[], [], []⟩, [(.normal, ⟨[(0, (.ow 0)), (1, (.int IntKind.i64)), (6, (.int IntKind.i64)), (7, (.oad 1 0)), (8, (.int IntKind.u64)), (9, (.int IntKind.i64))], [(0, (.int IntKind.i32)), (7, (.int IntKind.u64))], []⟩), ((.exit 0), ⟨[(0, (.ow 0))], [(0, (.int IntKind.i32))], []⟩)]⟩ else none
def i_breakPat_g : List (Nat × Ctr) := [(60, i_nextPow_c), (61, i_xorNext_c)]
theorem i_breakPat_eq (v : PDen i_breakPat_c.ps) : semF tbl (gam i_breakPat_g) i_breakPat_h fuelN 65 (bodyOf Try.f66) i_breakPat_c.ps i_breakPat_c.rs [] v = i_breakPat_c.g v := by kernel_rfl

/- 77: i_order2 -/
def i_order2_c : Ctr := ⟨[.ro (.slice (.int IntKind.i32)), .ro (.int IntKind.i64), .ro (.int IntKind.i64), .mutp (.int IntKind.i64)], [.val (.int IntKind.i64), .val (.int IntKind.i64)], fun v => Srt.order2 i_less v.1 v.2.1 v.2.2.1 v.2.2.2.1⟩
def i_order2_h : Nat → Option LH := fun i => if i = 1010004 then some ⟨⟨[], [], []⟩, [(.ret, ⟨[(3, (.oad 0 0)), (8, (.int IntKind.i64)), (9, (.int IntKind.i64))], [(3, (.int IntKind.i64))], []⟩), (.normal, ⟨[(1, (.int IntKind.i64)), (2, (.int IntKind.i64)), (3, (.oad 0 0))], [(3, (.int IntKind.i64))], []⟩)]⟩ else none
def i_order2_g : List (Nat × Ctr) := [(70, i_less_c)]
theorem i_order2_eq (v : PDen i_order2_c.ps) : semF tbl (gam i_order2_g) i_order2_h fuelN 28 (bodyOf Try.f77) i_order2_c.ps i_order2_c.rs [8, 9] v = i_order2_c.g v := by kernel_rfl

/- 76: i_median -/
def i_median_c : Ctr := ⟨[.ro (.slice (.int IntKind.i32)), .ro (.int IntKind.i64), .ro (.int IntKind.i64), .ro (.int IntKind.i64), .mutp (.int IntKind.i64)], [.val (.int IntKind.i64)], fun v => Srt.median i_less v.1 v.2.1 v.2.2.1 v.2.2.2.1 v.2.2.2.2.1⟩
def i_median_h : Nat → Option LH := fun i => none
def i_median_g : List (Nat × Ctr) := [(77, i_order2_c)]
theorem i_median_eq (v : PDen i_median_c.ps) : semF tbl (gam i_median_g) i_median_h fuelN 36 (bodyOf Try.f76) i_median_c.ps i_median_c.rs [10] v = i_median_c.g v := by kernel_rfl

/- 75: i_medianAdj -/
def i_medianAdj_c : Ctr := ⟨[.ro (.slice (.int IntKind.i32)), .ro (.int IntKind.i64), .mutp (.int IntKind.i64)], [.val (.int IntKind.i64)], fun v => Srt.medianAdj i_less v.1 v.2.1 v.2.2.1⟩
def i_medianAdj_h : Nat → Option LH := fun i => none
def i_medianAdj_g : List (Nat × Ctr) := [(76, i_median_c)]
theorem i_medianAdj_eq (v : PDen i_medianAdj_c.ps) : semF tbl (gam i_medianAdj_g) i_medianAdj_h fuelN 15 (bodyOf Try.f75) i_medianAdj_c.ps i_medianAdj_c.rs [6] v = i_medianAdj_c.g v := by kernel_rfl

/- 67: i_choosePiv -/
def i_choosePiv_c : Ctr := ⟨[.ro (.slice (.int IntKind.i32)), .ro (.int IntKind.i64), .ro (.int IntKind.i64)], [.val (.int IntKind.i64), .val (.int IntKind.i64)], fun v => Srt.choosePiv i_less v.1 v.2.1 v.2.2.1⟩
def i_choosePiv_h : Nat → Option LH := fun i => if i = 1060012 then some ⟨⟨[], [], []⟩, [(.normal, ⟨[(9, (.oad 0 0)), (11, (.int IntKind.i64))], [(9, (.int IntKind.i64))], []⟩)]⟩ else if i = 1070011 then some ⟨⟨[], [], []⟩, [(.normal, ⟨[(0, (.slice (.int IntKind.i32))), (9, (.oad 0 0)), (10, (.int IntKind.i64)), (11, (.int IntKind.i64)), (12, (.int IntKind.i64))], [(9, (.int IntKind.i64))], []⟩)]⟩ else none
def i_choosePiv_g : List (Nat × Ctr) := [(76, i_median_c), (75, i_medianAdj_c)]
theorem i_choosePiv_eq (v : PDen i_choosePiv_c.ps) : semF tbl (gam i_choosePiv_g) i_choosePiv_h fuelN 57 (bodyOf Try.f67) i_choosePiv_c.ps i_choosePiv_c.rs [6, 7] v = i_choosePiv_c.g v := by kernel_rfl

/- 68: i_revRange -/
def i_revRange_c : Ctr := ⟨[.mut (.int IntKind.i32), .ro (.int IntKind.i64), .ro (.int IntKind.i64)], [], fun v => Srt.revRange v.1 v.2.1 v.2.2.1⟩
def i_revRange_h : Nat → Option LH := fun i => if i = 2 then some ⟨⟨[(0, (.ow 0)), (6, (.int IntKind.i64)), (7, (.int IntKind.i64))], [(0, (.int IntKind.i32))], []⟩, [((.exit 0), ⟨[(0, (.ow 0))], [(0, (.int IntKind.i32))], []⟩)]⟩ else if i = 1020003 then some ⟨⟨[], [], []⟩, [(.normal, ⟨[(0, (.ow 0)), (6, (.int IntKind.i64)), (7, (.int IntKind.i64))], [(0, (.int IntKind.i32))], []⟩), ((.exit 0), ⟨[(0, (.ow 0))], [(0, (.int IntKind.i32))], []⟩)]⟩ else none
def i_revRange_g : List (Nat × Ctr) := []
theorem i_revRange_eq (v : PDen i_revRange_c.ps) : semF tbl (gam i_revRange_g) i_revRange_h fuelN 32 (bodyOf Try.f68) i_revRange_c.ps i_revRange_c.rs [] v = i_revRange_c.g v := by kernel_rfl

/- 69: i_partIns -/
def i_partIns_c : Ctr := ⟨[.mut (.int IntKind.i32), .ro (.int IntKind.i64), .ro (.int IntKind.i64)], [.val .bool], fun v => Srt.partIns i_less v.1 v.2.1 v.2.2.1⟩
def i_partIns_h : Nat → Option LH := fun i => if i = 3 then some ⟨⟨[(0, (.ow 0)), (1, (.int IntKind.i64)), (2, (.int IntKind.i64)), (7, (.int IntKind.i64)), (8, (.int IntKind.i64))], [(0, (.int IntKind.i32))], []⟩, [(.ret, ⟨[(0, (.ow 0)), (6, .bool)], [(0, (.int IntKind.i32))], []⟩), ((.exit 0), ⟨[(0, (.ow 0))], [(0, (.int IntKind.i32))], []⟩)]⟩ else if i = 1050004 then some ⟨⟨[], [], []⟩, [(.ret, ⟨[(0, (.ow 0)), (6, .bool)], [(0, (.int IntKind.i32))], []⟩), (.normal, ⟨[(0, (.ow 0)), (1, (.int IntKind.i64)), (2, (.int IntKind.i64)), (7, (.int IntKind.i64)), (8, (.int IntKind.i64))], [(0, (.int IntKind.i32))], []⟩)]⟩ else if i = 20 then some ⟨⟨[(0, (.ow 0)), (1, (.int IntKind.i64)), (2, (.int IntKind.i64)), (7, (.int IntKind.i64)), (8, (.int IntKind.i64)), (10, (.int IntKind.i64))], [(0, (.int IntKind.i32))], []⟩, [((.exit 6), ⟨[(0, (.ow 0)), (1, (.int IntKind.i64)), (2, (.int IntKind.i64)), (7, (.int IntKind.i64)), (8, (.int IntKind.i64))], [(0, (.int IntKind.i32))], []⟩)]⟩ else if i = 1220021 then some ⟨⟨[], [], []⟩, [((.exit 6), ⟨[(0, (.ow 0)), (1, (.int IntKind.i64)), (2, (.int IntKind.i64)), (7, (.int IntKind.i64)), (8, (.int IntKind.i64))], [(0, (.int IntKind.i32))], []⟩), (.normal, ⟨[(0, (.ow 0)), (1, (.int IntKind.i64)), (2, (.int IntKind.i64)), (7, (.int IntKind.i64)), (8, (.int IntKind.i64)), (10, (.int IntKind.i64))], [(0, (.int IntKind.i32))], []⟩)]⟩ else if i = 1220023 then some ⟨⟨[], [], []⟩, [((.exit 6), ⟨[(0, (.ow 0)), (1, (.int IntKind.i64)), (2, (.int IntKind.i64)), (7, (.int IntKind.i64)), (8, (.int IntKind.i64))], [(0, (.int IntKind.i32))], []⟩), (.normal, ⟨[(0, (.ow 0)), (1, (.int IntKind.i64)), (2, (.int IntKind.i64)), (7, (.int IntKind.i64)), (8, (.int IntKind.i64)), (10, (.int IntKind.i64))], [(0, (.int IntKind.i32))], []⟩)]⟩ else if i = 1200022 then some ⟨⟨[], [], []⟩, [(.normal, ⟨[(0, (.ow 0)), (1, (.int IntKind.i64)), (2, (.int IntKind.i64)), (7, (.int IntKind.i64)), (8, (.int IntKind.i64)), (10, (.int IntKind.i64))], [(0, (.int IntKind.i32))], []⟩), ((.exit 6), ⟨[(0, (.ow 0)), (1, (.int IntKind.i64)), (2, (.int IntKind.i64)), (7, (.int IntKind.i64)), (8, (.int IntKind.i64))], [(0, (.int IntKind.i32))], []⟩)]⟩ else if i = 1120018 then some ⟨⟨[], [], []⟩, [(.normal, ⟨[(0, (.ow 0)), (1, (.int IntKind.i64)), (2, (.int IntKind.i64)), (7, (.int IntKind.i64)), (8, (.int IntKind.i64))], [(0, (.int IntKind.i32))], []⟩)]⟩ else if i = 14 then some ⟨⟨[(0, (.ow 0)), (1, (.int IntKind.i64)), (2, (.int IntKind.i64)), (7, (.int IntKind.i64)), (8, (.int IntKind.i64)), (9, (.int IntKind.i64))], [(0, (.int IntKind.i32))], []⟩, [((.exit 4), ⟨[(0, (.ow 0)), (1, (.int IntKind.i64)), (2, (.int IntKind.i64)), (7, (.int IntKind.i64)), (8, (.int IntKind.i64))], [(0, (.int IntKind.i32))], []⟩)]⟩ else if i = 1160015 then some ⟨⟨[], [], []⟩, [((.exit 4), ⟨[(0, (.ow 0)), (1, (.int IntKind.i64)), (2, (.int IntKind.i64)), (7, (.int IntKind.i64)), (8, (.int IntKind.i64))], [(0, (.int IntKind.i32))], []⟩), (.normal, ⟨[(0, (.ow 0)), (1, (.int IntKind.i64)), (2, (.int IntKind.i64)), (7, (.int IntKind.i64)), (8, (.int IntKind.i64)), (9, (.int IntKind.i64))], [(0, (.int IntKind.i32))], []⟩)]⟩ else if i = 1160017 then some ⟨⟨[], [], []⟩, [((.exit 4), ⟨[(0, (.ow 0)), (1, (.int IntKind.i64)), (2, (.int IntKind.i64)), (7, (.int IntKind.i64)), (8, (.int IntKind.i64))], [(0, (.int IntKind.i32))], []⟩), (.normal, ⟨[(0, (.ow 0)), (1, (.int IntKind.i64)), (2, (.int IntKind.i64)), (7, (.int IntKind.i64)), (8, (.int IntKind.i64)), (9, (.int IntKind.i64))], [(0, (.int IntKind.i32))], []⟩)]⟩ else if i = 1140016 then some ⟨⟨[], [], []⟩, [(.normal, ⟨[(0, (.ow 0)), (1, (.int IntKind.i64)), (2, (.int IntKind.i64)), (7, (.int IntKind.i64)), (8, (.int IntKind.i64)), (9, (.int IntKind.i64))], [(0, (.int IntKind.i32))], []⟩), ((.exit 4), ⟨[(0, (.ow 0)), (1, (.int IntKind.i64)), (2, (.int IntKind.i64)), (7, (.int IntKind.i64)), (8, (.int IntKind.i64))], [(0, (.int IntKind.i32))], []⟩)]⟩ else if i = 1090011 then some ⟨⟨[], [], []⟩, [(.ret, ⟨[(0, (.ow 0)), (6, .bool)], [(0, (.int IntKind.i32))], []⟩), (.normal, ⟨[(0, (.ow 0)), (1, (.int IntKind.i64)), (2, (.int IntKind.i64)), (7, (.int IntKind.i64)), (8, (.int IntKind.i64))], [(0, (.int IntKind.i32))], []⟩)]⟩ else if i = 1070009 then some ⟨⟨[], [], []⟩, [(.ret, ⟨[(0, (.ow 0)), (6, .bool)], [(0, (.int IntKind.i32))], []⟩), (.normal, ⟨[(0, (.ow 0)), (1, (.int IntKind.i64)), (2, (.int IntKind.i64)), (7, (.int IntKind.i64)), (8, (.int IntKind.i64))], [(0, (.int IntKind.i32))], []⟩)]⟩ else if i = 1050007 then some ⟨⟨[], [], []⟩, [(.normal, ⟨[(0, (.ow 0)), (1, (.int IntKind.i64)), (2, (.int IntKind.i64)), (7, (.int IntKind.i64)), (8, (.int IntKind.i64))], [(0, (.int IntKind.i32))], []⟩)]⟩ else if i = 5 then some ⟨⟨[(0, (.ow 0)), (1, (.int IntKind.i64)), (2, (.int IntKind.i64)), (7, (.int IntKind.i64)), (8, (.int IntKind.i64))], [(0, (.int IntKind.i32))], []⟩, [((.exit 2), ⟨[(0, (.ow 0)), (1, (.int IntKind.i64)), (2, (.int IntKind.i64)), (7, (.int IntKind.i64)), (8, (.int IntKind.i64))], [(0, (.int IntKind.i32))], []⟩)]⟩ else if i = 1050006 then some ⟨⟨[], [], []⟩, [(.normal, ⟨[(0, (.ow 0)), (1, (.int IntKind.i64)), (2, (.int IntKind.i64)), (7, (.int IntKind.i64)), (8, (.int IntKind.i64))], [(0, (.int IntKind.i32))], []⟩), ((.exit 2), ⟨[(0, (.ow 0)), (1, (.int IntKind.i64)), (2, (.int IntKind.i64)), (7, (.int IntKind.i64)), (8, (.int IntKind.i64))], [(0, (.int IntKind.i32))], []⟩)]⟩ else if i = 1030005 then some ⟨⟨[], [], []⟩, [(.normal, ⟨[(0, (.ow 0)), (1, (.int IntKind.i64)), (2, (.int IntKind.i64)), (7, (.int IntKind.i64)), (8, (.int IntKind.i64))], [(0, (.int IntKind.i32))], []⟩), ((.exit 0), ⟨[(0, (.ow 0))], [(0, (.int IntKind.i32))], []⟩)]⟩ else none
def i_partIns_g : List (Nat × Ctr) := [(70, i_less_c)]
theorem i_partIns_eq (v : PDen i_partIns_c.ps) : semF tbl (gam i_partIns_g) i_partIns_h fuelN 133 (bodyOf Try.f69) i_partIns_c.ps i_partIns_c.rs [6] v = i_partIns_c.g v := by kernel_rfl

/- 71: i_partEq -/
def i_partEq_c : Ctr := ⟨[.mut (.int IntKind.i32), .ro (.int IntKind.i64), .ro (.int IntKind.i64), .ro (.int IntKind.i64)], [.val (.int IntKind.i64)], fun v => Srt.partEq i_less v.1 v.2.1 v.2.2.1 v.2.2.2.1⟩
def i_partEq_h : Nat → Option LH := fun i => if i = 100003 then some ⟨⟨[(0, (.ow 0)), (1, (.int IntKind.i64)), (9, (.int IntKind.i64)), (10, (.int IntKind.i64))], [(0, (.int IntKind.i32))], []⟩, [((.exit 0), ⟨[(0, (.ow 0)), (9, (.int IntKind.i64))], [(0, (.int IntKind.i32))], []⟩)]⟩ else if i = 1070008 then some ⟨⟨[], [], []⟩, [((.exit 0), ⟨[(0, (.ow 0)), (9, (.int IntKind.i64))], [(0, (.int IntKind.i32))], []⟩), (.normal, ⟨[(0, (.ow 0)), (1, (.int IntKind.i64)), (9, (.int IntKind.i64)), (10, (.int IntKind.i64))], [(0, (.int IntKind.i32))], []⟩)]⟩ else if i = 1050007 then some ⟨⟨[], [], []⟩, [(.normal, ⟨[(0, (.ow 0)), (1, (.int IntKind.i64)), (9, (.int IntKind.i64)), (10, (.int IntKind.i64))], [(0, (.int IntKind.i32))], []⟩)]⟩ else if i = 5 then some ⟨⟨[(0, (.ow 0)), (1, (.int IntKind.i64)), (9, (.int IntKind.i64)), (10, (.int IntKind.i64))], [(0, (.int IntKind.i32))], []⟩, [((.exit 4), ⟨[(0, (.ow 0)), (1, (.int IntKind.i64)), (9, (.int IntKind.i64)), (10, (.int IntKind.i64))], [(0, (.int IntKind.i32))], []⟩)]⟩ else if i = 1050006 then some ⟨⟨[], [], []⟩, [(.normal, ⟨[(0, (.ow 0)), (1, (.int IntKind.i64)), (9, (.int IntKind.i64)), (10, (.int IntKind.i64))], [(0, (.int IntKind.i32))], []⟩), ((.exit 4), ⟨[(0, (.ow 0)), (1, (.int IntKind.i64)), (9, (.int IntKind.i64)), (10, (.int IntKind.i64))], [(0, (.int IntKind.i32))], []⟩)]⟩ else if i = 1030005 then some ⟨⟨[], [], []⟩, [(.normal, ⟨[(0, (.ow 0)), (1, (.int IntKind.i64)), (9, (.int IntKind.i64)), (10, (.int IntKind.i64))], [(0, (.int IntKind.i32))], []⟩)]⟩ else if i = 3 then some ⟨⟨[(0, (.ow 0)), (1, (.int IntKind.i64)), (9, (.int IntKind.i64)), (10, (.int IntKind.i64))], [(0, (.int IntKind.i32))], []⟩, [((.exit 2), ⟨[(0, (.ow 0)), (1, (.int IntKind.i64)), (9, (.int IntKind.i64)), (10, (.int IntKind.i64))], [(0, (.int IntKind.i32))], []⟩)]⟩ else if i = 1030004 then some ⟨⟨[], [], []⟩, [(.normal, ⟨[(0, (.ow 0)), (1, (.int IntKind.i64)), (9, (.int IntKind.i64)), (10, (.int IntKind.i64))], [(0, (.int IntKind.i32))], []⟩), ((.exit 2), ⟨[(0, (.ow 0)), (1, (.int IntKind.i64)), (9, (.int IntKind.i64)), (10, (.int IntKind.i64))], [(0, (.int IntKind.i32))], []⟩)]⟩ else none
def i_partEq_g : List (Nat × Ctr) := [(70, i_less_c)]
theorem i_partEq_eq (v : PDen i_partEq_c.ps) : semF tbl (gam i_partEq_g) i_partEq_h fuelN 84 (bodyOf Try.f71) i_partEq_c.ps i_partEq_c.rs [8] v = i_partEq_c.g v := by kernel_rfl

/- 72: i_partition -/
def i_partition_c : Ctr := ⟨[.mut (.int IntKind.i32), .ro (.int IntKind.i64), .ro (.int IntKind.i64), .ro (.int IntKind.i64)], [.val (.int IntKind.i64), .val .bool], fun v => Srt.partition i_less v.1 v.2.1 v.2.2.1 v.2.2.2.1⟩
def i_partition_h : Nat → Option LH := fun i => if i = 1130021 then some ⟨⟨[], [], []⟩, [(.normal, ⟨[(0, (.ow 0)), (1, (.int IntKind.i64)), (11, (.int IntKind.i64))], [(0, (.int IntKind.i32))], []⟩)]⟩ else if i = 100013 then some ⟨⟨[(0, (.ow 0)), (1, (.int IntKind.i64)), (10, (.int IntKind.i64)), (11, (.int IntKind.i64))], [(0, (.int IntKind.i32))], []⟩, [((.exit 4), ⟨[(0, (.ow 0)), (1, (.int IntKind.i64)), (11, (.int IntKind.i64))], [(0, (.int IntKind.i32))], []⟩)]⟩ else if i = 1170018 then some ⟨⟨[], [], []⟩, [((.exit 4), ⟨[(0, (.ow 0)), (1, (.int IntKind.i64)), (11, (.int IntKind.i64))], [(0, (.int IntKind.i32))], []⟩), (.normal, ⟨[(0, (.ow 0)), (1, (.int IntKind.i64)), (10, (.int IntKind.i64)), (11, (.int IntKind.i64))], [(0, (.int IntKind.i32))], []⟩)]⟩ else if i = 1150017 then some ⟨⟨[], [], []⟩, [(.normal, ⟨[(0, (.ow 0)), (1, (.int IntKind.i64)), (10, (.int IntKind.i64)), (11, (.int IntKind.i64))], [(0, (.int IntKind.i32))], []⟩)]⟩ else if i = 15 then some ⟨⟨[(0, (.ow 0)), (1, (.int IntKind.i64)), (10, (.int IntKind.i64)), (11, (.int IntKind.i64))], [(0, (.int IntKind.i32))], []⟩, [((.exit 8), ⟨[(0, (.ow 0)), (1, (.int IntKind.i64)), (10, (.int IntKind.i64)), (11, (.int IntKind.i64))], [(0, (.int IntKind.i32))], []⟩)]⟩ else if i = 1150016 then some ⟨⟨[], [], []⟩, [(.normal, ⟨[(0, (.ow 0)), (1, (.int IntKind.i64)), (10, (.int IntKind.i64)), (11, (.int IntKind.i64))], [(0, (.int IntKind.i32))], []⟩), ((.exit 8), ⟨[(0, (.ow 0)), (1, (.int IntKind.i64)), (10, (.int IntKind.i64)), (11, (.int IntKind.i64))], [(0, (.int IntKind.i32))], []⟩)]⟩ else if i = 1130015 then some ⟨⟨[], [], []⟩, [(.normal, ⟨[(0, (.ow 0)), (1, (.int IntKind.i64)), (10, (.int IntKind.i64)), (11, (.int IntKind.i64))], [(0, (.int IntKind.i32))], []⟩)]⟩ else if i = 13 then some ⟨⟨[(0, (.ow 0)), (1, (.int IntKind.i64)), (10, (.int IntKind.i64)), (11, (.int IntKind.i64))], [(0, (.int IntKind.i32))], []⟩, [((.exit 6), ⟨[(0, (.ow 0)), (1, (.int IntKind.i64)), (10, (.int IntKind.i64)), (11, (.int IntKind.i64))], [(0, (.int IntKind.i32))], []⟩)]⟩ else if i = 1130014 then some ⟨⟨[], [], []⟩, [(.normal, ⟨[(0, (.ow 0)), (1, (.int IntKind.i64)), (10, (.int IntKind.i64)), (11, (.int IntKind.i64))], [(0, (.int IntKind.i32))], []⟩), ((.exit 6), ⟨[(0, (.ow 0)), (1, (.int IntKind.i64)), (10, (.int IntKind.i64)), (11, (.int IntKind.i64))], [(0, (.int IntKind.i32))], []⟩)]⟩ else if i = 1070010 then some ⟨⟨[], [], []⟩, [(.ret, ⟨[(0, (.ow 0)), (8, (.int IntKind.i64)), (9, .bool)], [(0, (.int IntKind.i32))], []⟩), (.normal, ⟨[(0, (.ow 0)), (1, (.int IntKind.i64)), (10, (.int IntKind.i64)), (11, (.int IntKind.i64))], [(0, (.int IntKind.i32))], []⟩)]⟩ else if i = 1050007 then some ⟨⟨[], [], []⟩, [(.normal, ⟨[(0, (.ow 0)), (1, (.int IntKind.i64)), (10, (.int IntKind.i64)), (11, (.int IntKind.i64))], [(0, (.int IntKind.i32))], []⟩)]⟩ else if i = 5 then some ⟨⟨[(0, (.ow 0)), (1, (.int IntKind.i64)), (10, (.int IntKind.i64)), (11, (.int IntKind.i64))], [(0, (.int IntKind.i32))], []⟩, [((.exit 2), ⟨[(0, (.ow 0)), (1, (.int IntKind.i64)), (10, (.int IntKind.i64)), (11, (.int IntKind.i64))], [(0, (.int IntKind.i32))], []⟩)]⟩ else if i = 1050006 then some ⟨⟨[], [], []⟩, [(.normal, ⟨[(0, (.ow 0)), (1, (.int IntKind.i64)), (10, (.int IntKind.i64)), (11, (.int IntKind.i64))], [(0, (.int IntKind.i32))], []⟩), ((.exit 2), ⟨[(0, (.ow 0)), (1, (.int IntKind.i64)), (10, (.int IntKind.i64)), (11, (.int IntKind.i64))], [(0, (.int IntKind.i32))], []⟩)]⟩ else if i = 1030005 then some ⟨⟨[], [], []⟩, [(.normal, ⟨[(0, (.ow 0)), (1, (.int IntKind.i64)), (10, (.int IntKind.i64)), (11, (.int IntKind.i64))], [(0, (.int IntKind.i32))], []⟩)]⟩ else if i = 3 then some ⟨⟨[(0, (.ow 0)), (1, (.int IntKind.i64)), (10, (.int IntKind.i64)), (11, (.int IntKind.i64))], [(0, (.int IntKind.i32))], []⟩, [((.exit 0), ⟨[(0, (.ow 0)), (1, (.int IntKind.i64)), (10, (.int IntKind.i64)), (11, (.int IntKind.i64))], [(0, (.int IntKind.i32))], []⟩)]⟩ else if i = 1030004 then some ⟨⟨[], [], []⟩, [(.normal, ⟨[(0, (.ow 0)), (1, (.int IntKind.i64)), (10, (.int IntKind.i64)), (11, (.int IntKind.i64))], [(0, (.int IntKind.i32))], []⟩), ((.exit 0), ⟨[(0, (.ow 0)), (1, (.int IntKind.i64)), (10, (.int IntKind.i64)), (11, (.int IntKind.i64))], [(0, (.int IntKind.i32))], []⟩)]⟩ else none
def i_partition_g : List (Nat × Ctr) := [(70, i_less_c)]
theorem i_partition_eq (v : PDen i_partition_c.ps) : semF tbl (gam i_partition_g) i_partition_h fuelN 168 (bodyOf Try.f72) i_partition_c.ps i_partition_c.rs [8, 9] v = i_partition_c.g v := by kernel_rfl

/- 58: i_pdq0 -/
def i_pdq0_c (i_pdqR : List Int → Int → Int → Int → Option (List Int × Unit)) : Ctr := ⟨[.mut (.int IntKind.i32), .ro (.int IntKind.i64), .ro (.int IntKind.i64), .ro (.int IntKind.i64)], [], fun v => Srt.pdq0 i_less i_pdqR v.1 v.2.1 v.2.2.1 v.2.2.2.1⟩
def i_pdq0_h : Nat → Option LH := fun i => if i = 2 then some ⟨⟨[(0, (.ow 0)), (1, (.int IntKind.i64)), (2, (.int IntKind.i64)), (3, (.int IntKind.i64)), (8, .bool), (9, .bool)], [(0, (.int IntKind.i32))], []⟩, [(.ret, ⟨[(0, (.ow 0))], [(0, (.int IntKind.i32))], []⟩)]⟩ else if i = 1170020 then some ⟨⟨[], [], []⟩, [((.exit 1), ⟨[(0, (.ow 0)), (1, (.int IntKind.i64)), (2, (.int IntKind.i64)), (3, (.int IntKind.i64)), (8, .bool), (9, .bool)], [(0, (.int IntKind.i32))], []⟩), (.normal, ⟨[(0, (.ow 0)), (1, (.int IntKind.i64)), (2, (.int IntKind.i64)), (3, (.int IntKind.i64)), (10, (.int IntKind.i64)), (11, (.int IntKind.i64))], [(0, (.int IntKind.i32))], []⟩)]⟩ else if i = 1170018 then some ⟨⟨[], [], []⟩, [(.normal, ⟨[(0, (.ow 0)), (1, (.int IntKind.i64)), (2, (.int IntKind.i64)), (3, (.int IntKind.i64)), (8, .bool), (9, .bool), (10, (.int IntKind.i64)), (11, (.int IntKind.i64)), (87, .bool)], [(0, (.int IntKind.i32))], []⟩)]⟩ else if i = 1150017 then some ⟨⟨[], [], []⟩, [(.ret, ⟨[(0, (.ow 0))], [(0, (.int IntKind.i32))], []⟩), (.normal, ⟨[(0, (.ow 0)), (1, (.int IntKind.i64)), (2, (.int IntKind.i64)), (3, (.int IntKind.i64)), (8, .bool), (9, .bool), (10, (.int IntKind.i64)), (11, (.int IntKind.i64))], [(0, (.int IntKind.i32))], []⟩)]⟩ else if i = 1150016 then some ⟨⟨[], [], []⟩, [(.normal, ⟨[(0, (.ow 0)), (1, (.int IntKind.i64)), (2, (.int IntKind.i64)), (3, (.int IntKind.i64)), (8, .bool), (9, .bool), (10, (.int IntKind.i64)), (11, (.int IntKind.i64)), (68, .bool)], [(0, (.int IntKind.i32))], []⟩)]⟩ else if i = 1110015 then some ⟨⟨[], [], []⟩, [(.normal, ⟨[(0, (.ow 0)), (1, (.int IntKind.i64)), (2, (.int IntKind.i64)), (3, (.int IntKind.i64)), (8, .bool), (9, .bool), (10, (.int IntKind.i64)), (11, (.int IntKind.i64)), (12, (.int IntKind.i64))], [(0, (.int IntKind.i32))], []⟩)]⟩ else if i = 1070010 then some ⟨⟨[], [], []⟩, [(.normal, ⟨[(0, (.ow 0)), (1, (.int IntKind.i64)), (2, (.int IntKind.i64)), (3, (.int IntKind.i64)), (8, .bool), (9, .bool), (10, (.int IntKind.i64))], [(0, (.int IntKind.i32))], []⟩)]⟩ else if i = 1050007 then some ⟨⟨[], [], []⟩, [(.ret, ⟨[(0, (.ow 0))], [(0, (.int IntKind.i32))], []⟩), (.normal, ⟨[(0, (.ow 0)), (1, (.int IntKind.i64)), (2, (.int IntKind.i64)), (3, (.int IntKind.i64)), (8, .bool), (9, .bool), (10, (.int IntKind.i64))], [(0, (.int IntKind.i32))], []⟩)]⟩ else if i = 1030005 then some ⟨⟨[], [], []⟩, [(.ret, ⟨[(0, (.ow 0))], [(0, (.int IntKind.i32))], []⟩), (.normal, ⟨[(0, (.ow 0)), (1, (.int IntKind.i64)), (2, (.int IntKind.i64)), (3, (.int IntKind.i64)), (8, .bool), (9, .bool), (10, (.int IntKind.i64))], [(0, (.int IntKind.i32))], []⟩)]⟩ else none
def i_pdq0_g (i_pdqR : List Int → Int → Int → Int → Option (List Int × Unit)) : List (Nat × Ctr) := [(70, i_less_c), (64, i_insSort_c), (65, i_heapSort_c), (66, i_breakPat_c), (67, i_choosePiv_c), (68, i_revRange_c), (69, i_partIns_c), (71, i_partEq_c), (72, i_partition_c), (58, (i_pdqR_cR i_pdqR))]
theorem i_pdq0_eq (i_pdqR : List Int → Int → Int → Int → Option (List Int × Unit)) (v : PDen (i_pdq0_c i_pdqR).ps) : semF tbl (gam (i_pdq0_g i_pdqR)) i_pdq0_h fuelN 134 (bodyOf Try.f58) (i_pdq0_c i_pdqR).ps (i_pdq0_c i_pdqR).rs [] v = (i_pdq0_c i_pdqR).g v := by kernel_rfl

/- 44: i_sortG -/
def i_sortG_c (i_pdqR : List Int → Int → Int → Int → Option (List Int × Unit)) : Ctr := ⟨[.mut (.int IntKind.i32)], [], fun v => Srt.sortG i_pdqR v.1⟩
def i_sortG_h : Nat → Option LH := fun i => none
def i_sortG_g (i_pdqR : List Int → Int → Int → Int → Option (List Int × Unit)) : List (Nat × Ctr) := [(41, i_bitsLen_c), (58, (i_pdqR_cR i_pdqR))]
theorem i_sortG_eq (i_pdqR : List Int → Int → Int → Int → Option (List Int × Unit)) (v : PDen (i_sortG_c i_pdqR).ps) : semF tbl (gam (i_sortG_g i_pdqR)) i_sortG_h fuelN 11 (bodyOf Try.f44) (i_sortG_c i_pdqR).ps (i_sortG_c i_pdqR).rs [] v = (i_sortG_c i_pdqR).g v := by kernel_rfl

/- 47: c_insSort -/
def c_insSort_c : Ctr := ⟨[.mut (.st (.pair (.int IntKind.i32) (.int IntKind.i32))), .ro (.int IntKind.i64), .ro (.int IntKind.i64), .ro (.clo 30 .unit)], [], fun v => Srt.insSort c_less v.1 v.2.1 v.2.2.1⟩
def c_insSort_h : Nat → Option LH := fun i => if i = 1 then some ⟨⟨[(0, (.ow 0)), (1, (.int IntKind.i64)), (2, (.int IntKind.i64)), (8, (.int IntKind.i64))], [(0, (.st (.pair (.int IntKind.i32) (.int IntKind.i32))))], [(3, 30)]⟩, [((.exit 0), ⟨[(0, (.ow 0))], [(0, (.st (.pair (.int IntKind.i32) (.int IntKind.i32))))], []⟩)]⟩ else if i = 1030002 then some ⟨⟨[], [], []⟩, [(.normal, ⟨[(0, (.ow 0)), (1, (.int IntKind.i64)), (2, (.int IntKind.i64)), (8, (.int IntKind.i64))], [(0, (.st (.pair (.int IntKind.i32) (.int IntKind.i32))))], [(3, 30)]⟩)]⟩ else if i = 4 then some ⟨⟨[(0, (.ow 0)), (1, (.int IntKind.i64)), (2, (.int IntKind.i64)), (8, (.int IntKind.i64)), (9, (.int IntKind.i64))], [(0, (.st (.pair (.int IntKind.i32) (.int IntKind.i32))))], [(3, 30)]⟩, [((.exit 2), ⟨[(0, (.ow 0)), (1, (.int IntKind.i64)), (2, (.int IntKind.i64)), (8, (.int IntKind.i64))], [(0, (.st (.pair (.int IntKind.i32) (.int IntKind.i32))))], [(3, 30)]⟩)]⟩ else if i = 1060005 then some ⟨⟨[], [], []⟩, [(.normal, ⟨[(0, (.ow 0)), (1, (.int IntKind.i64)), (2, (.int IntKind.i64)), (8, (.int IntKind.i64)), (9, (.int IntKind.i64))], [(0, (.st (.pair (.int IntKind.i32) (.int IntKind.i32))))], [(3, 30)]⟩)]⟩ else if i = 1040006 then some ⟨⟨[], [], []⟩, [(.normal, ⟨[(0, (.ow 0)), (1, (.int IntKind.i64)), (2, (.int IntKind.i64)), (8, (.int IntKind.i64)), (9, (.int IntKind.i64))], [(0, (.st (.pair (.int IntKind.i32) (.int IntKind.i32))))], [(3, 30)]⟩), ((.exit 2), ⟨[(0, (.ow 0)), (1, (.int IntKind.i64)), (2, (.int IntKind.i64)), (8, (.int IntKind.i64))], [(0, (.st (.pair (.int IntKind.i32) (.int IntKind.i32))))], [(3, 30)]⟩)]⟩ else if i = 1010003 then some ⟨⟨[], [], []⟩, [(.normal, ⟨[(0, (.ow 0)), (1, (.int IntKind.i64)), (2, (.int IntKind.i64)), (8, (.int IntKind.i64))], [(0, (.st (.pair (.int IntKind.i32) (.int IntKind.i32))))], [(3, 30)]⟩), ((.exit 0), ⟨[(0, (.ow 0))], [(0, (.st (.pair (.int IntKind.i32) (.int IntKind.i32))))], []⟩)]⟩ else none
def c_insSort_g : List (Nat × Ctr) := [(30, c_cmp_c)]
theorem c_insSort_eq (v : PDen c_insSort_c.ps) : semF tbl (gam c_insSort_g) c_insSort_h fuelN 53 (bodyOf Try.f47) c_insSort_c.ps c_insSort_c.rs [] v = c_insSort_c.g v := by kernel_rfl

/- 59: c_siftDown -/
def c_siftDown_c : Ctr := ⟨[.mut (.st (.pair (.int IntKind.i32) (.int IntKind.i32))), .ro (.int IntKind.i64), .ro (.int IntKind.i64), .ro (.int IntKind.i64), .ro (.clo 30 .unit)], [], fun v => Srt.siftDown c_less v.1 v.2.1 v.2.2.1 v.2.2.2.1⟩
def c_siftDown_h : Nat → Option LH := fun i => if i = 1 then some ⟨⟨[(0, (.ow 0)), (2, (.int IntKind.i64)), (3, (.int IntKind.i64)), (10, (.int IntKind.i64))], [(0, (.st (.pair (.int IntKind.i32) (.int IntKind.i32))))], [(4, 30)]⟩, [((.exit 0), ⟨[(0, (.ow 0))], [(0, (.st (.pair (.int IntKind.i32) (.int IntKind.i32))))], []⟩), (.ret, ⟨[(0, (.ow 0))], [(0, (.st (.pair (.int IntKind.i32) (.int IntKind.i32))))], []⟩)]⟩ else if i = 1050006 then some ⟨⟨[], [], []⟩, [(.ret, ⟨[(0, (.ow 0))], [(0, (.st (.pair (.int IntKind.i32) (.int IntKind.i32))))], []⟩), (.normal, ⟨[(0, (.ow 0)), (2, (.int IntKind.i64)), (3, (.int IntKind.i64)), (10, (.int IntKind.i64)), (11, (.int IntKind.i64))], [(0, (.st (.pair (.int IntKind.i32) (.int IntKind.i32))))], [(4, 30)]⟩)]⟩ else if i = 1030005 then some ⟨⟨[], [], []⟩, [(.normal, ⟨[(0, (.ow 0)), (2, (.int IntKind.i64)), (3, (.int IntKind.i64)), (10, (.int IntKind.i64)), (11, (.int IntKind.i64))], [(0, (.st (.pair (.int IntKind.i32) (.int IntKind.i32))))], [(4, 30)]⟩)]⟩ else if i = 1030004 then some ⟨⟨[], [], []⟩, [(.normal, ⟨[(0, (.ow 0)), (2, (.int IntKind.i64)), (3, (.int IntKind.i64)), (10, (.int IntKind.i64)), (11, (.int IntKind.i64)), (40, .bool)], [(0, (.st (.pair (.int IntKind.i32) (.int IntKind.i32))))], [(4, 30)]⟩)]⟩ else if i = 1020003 then some ⟨⟨[], [], []⟩, [((.exit 0), ⟨[(0, (.ow 0))], [(0, (.st (.pair (.int IntKind.i32) (.int IntKind.i32))))], []⟩), (.normal, ⟨[(0, (.ow 0)), (2, (.int IntKind.i64)), (3, (.int IntKind.i64)), (10, (.int IntKind.i64)), (11, (.int IntKind.i64))], [(0, (.st (.pair (.int IntKind.i32) (.int IntKind.i32))))], [(4, 30)]⟩)]⟩ else none
def c_siftDown_g : List (Nat × Ctr) := [(30, c_cmp_c)]
theorem c_siftDown_eq (v : PDen c_siftDown_c.ps) : semF tbl (gam c_siftDown_g) c_siftDown_h fuelN 82 (bodyOf Try.f59) c_siftDown_c.ps c_siftDown_c.rs [] v = c_siftDown_c.g v := by kernel_rfl

/- 48: c_heapSort -/
def c_heapSort_c : Ctr := ⟨[.mut (.st (.pair (.int IntKind.i32) (.int IntKind.i32))), .ro (.int IntKind.i64), .ro (.int IntKind.i64), .ro (.clo 30 .unit)], [], fun v => Srt.heapSort c_less v.1 v.2.1 v.2.2.1⟩
def c_heapSort_h : Nat → Option LH := fun i => if i = 8 then some ⟨⟨[(0, (.ow 0)), (8, (.int IntKind.i64)), (9, (.int IntKind.i64)), (12, (.int IntKind.i64))], [(0, (.st (.pair (.int IntKind.i32) (.int IntKind.i32))))], [(3, 30)]⟩, [((.exit 2), ⟨[(0, (.ow 0))], [(0, (.st (.pair (.int IntKind.i32) (.int IntKind.i32))))], []⟩)]⟩ else if i = 1100009 then some ⟨⟨[], [], []⟩, [(.normal, ⟨[(0, (.ow 0)), (8, (.int IntKind.i64)), (9, (.int IntKind.i64)), (12, (.int IntKind.i64))], [(0, (.st (.pair (.int IntKind.i32) (.int IntKind.i32))))], [(3, 30)]⟩)]⟩ else if i = 1080010 then some ⟨⟨[], [], []⟩, [(.normal, ⟨[(0, (.ow 0)), (8, (.int IntKind.i64)), (9, (.int IntKind.i64)), (12, (.int IntKind.i64))], [(0, (.st (.pair (.int IntKind.i32) (.int IntKind.i32))))], [(3, 30)]⟩), ((.exit 2), ⟨[(0, (.ow 0))], [(0, (.st (.pair (.int IntKind.i32) (.int IntKind.i32))))], []⟩)]⟩ else if i = 1030007 then some ⟨⟨[], [], []⟩, [(.normal, ⟨[(0, (.ow 0)), (8, (.int IntKind.i64)), (9, (.int IntKind.i64)), (10, (.int IntKind.i64))], [(0, (.st (.pair (.int IntKind.i32) (.int IntKind.i32))))], [(3, 30)]⟩)]⟩ else if i = 4 then some ⟨⟨[(0, (.ow 0)), (8, (.int IntKind.i64)), (9, (.int IntKind.i64)), (10, (.int IntKind.i64)), (11, (.int IntKind.i64))], [(0, (.st (.pair (.int IntKind.i32) (.int IntKind.i32))))], [(3, 30)]⟩, [((.exit 0), ⟨[(0, (.ow 0)), (8, (.int IntKind.i64)), (9, (.int IntKind.i64)), (10, (.int IntKind.i64))], [(0, (.st (.pair (.int IntKind.i32) (.int IntKind.i32))))], [(3, 30)]⟩)]⟩ else if i = 1060005 then some ⟨⟨[], [], []⟩, [(.normal, ⟨[(0, (.ow 0)), (8, (.int IntKind.i64)), (9, (.int IntKind.i64)), (10, (.int IntKind.i64)), (11, (.int IntKind.i64))], [(0, (.st (.pair (.int IntKind.i32) (.int IntKind.i32))))], [(3, 30)]⟩)]⟩ else if i = 1040006 then some ⟨⟨[], [], []⟩, [(.normal, ⟨[(0, (.ow 0)), (8, (.int IntKind.i64)), (9, (.int IntKind.i64)), (10, (.int IntKind.i64)), (11, (.int IntKind.i64))], [(0, (.st (.pair (.int IntKind.i32) (.int IntKind.i32))))], [(3, 30)]⟩), ((.exit 0), ⟨[(0, (.ow 0)), (8, (.int IntKind.i64)), (9, (.int IntKind.i64)), (10, (.int IntKind.i64))], [(0, (.st (.pair (.int IntKind.i32) (.int IntKind.i32))))], [(3, 30)]⟩)]⟩ else none
def c_heapSort_g : List (Nat × Ctr) := [(59, c_siftDown_c)]
theorem c_heapSort_eq (v : PDen c_heapSort_c.ps) : semF tbl (gam c_heapSort_g) c_heapSort_h fuelN 60 (bodyOf Try.f48) c_heapSort_c.ps c_heapSort_c.rs [] v = c_heapSort_c.g v := by kernel_rfl

/- 49: c_breakPat -/
def c_breakPat_c : Ctr := ⟨[.mut (.st (.pair (.int IntKind.i32) (.int IntKind.i32))), .ro (.int IntKind.i64), .ro (.int IntKind.i64), .ro (.clo 30 .unit)], [], fun v => Srt.breakPat v.1 v.2.1 v.2.2.1⟩
def c_breakPat_h : Nat → Option LH := fun i => if i = 5 then some ⟨⟨[(0, (.ow 0)), (1, (.int IntKind.i64)), (8, (.int IntKind.i64)), (9, (.oad 1 0)), (10, (.int IntKind.u64)), (11, (.int IntKind.i64))], [(0, (.st (.pair (.int IntKind.i32) (.int IntKind.i32)))), (9, (.int IntKind.u64))], []⟩, [((.exit 0), ⟨[(0, (.ow 0))], [(0, (.st (.pair (.int IntKind.i32) (.int IntKind.i32))))], []⟩)]⟩ else if i = 1070006 then some ⟨⟨[], [], []⟩, [(.normal, ⟨[(0, (.ow 0)), (1, (.int IntKind.i64)), (8, (.int IntKind.i64)), (9, (.oad 1 0)), (10, (.int IntKind.u64)), (11, (.int IntKind.i64))], [(0, (.st (.pair (.int IntKind.i32) (.int IntKind.i32)))), (9, (.int IntKind.u64))], []⟩)]⟩ else if i = 1080010 then some ⟨⟨[], [], []⟩, [(.normal, ⟨[(0, (.ow 0)), (1, (.int IntKind.i64)), (8, (.int IntKind.i64)), (9, (.oad 1 0)), (10, (.int IntKind.u64)), (11, (.int IntKind.i64)), (12, (.int IntKind.i64))], [(0, (.st (.pair (.int IntKind.i32) (.int IntKind.i32)))), (9, (.int IntKind.u64))], []⟩)]⟩ else if i = 1050007 then some ⟨⟨[], [], []⟩, [(.normal, ⟨[(0, (.ow 0)), (1, (.int IntKind.i64)), (8, (.int IntKind.i64)), (9, (.oad 1 0)), (10, (.int IntKind.u64)), (11, (.int IntKind.i64))], [(0, (.st (.pair (.int IntKind.i32) (.int IntKind.i32)))), (9, (.int IntKind.u64))], []⟩), ((.exit 0), ⟨[(0, (.ow 0))], [(0, (.st (.pair (.int IntKind.i32) (.int IntKind.i32))))], []⟩)]⟩ else none
def c_breakPat_g : List (Nat × Ctr) := [(60, i_nextPow_c), (61, i_xorNext_c)]
theorem c_breakPat_eq (v : PDen c_breakPat_c.ps) : semF tbl (gam c_breakPat_g) c_breakPat_h fuelN 67 (bodyOf Try.f49) c_breakPat_c.ps c_breakPat_c.rs [] v = c_breakPat_c.g v := by kernel_rfl

/- 73: c_order2 -/
def c_order2_c : Ctr := ⟨[.ro (.slice (.st (.pair (.int IntKind.i32) (.int IntKind.i32)))), .ro (.int IntKind.i64), .ro (.int IntKind.i64), .mutp (.int IntKind.i64), .ro (.clo 30 .unit)], [.val (.int IntKind.i64), .val (.int IntKind.i64)], fun v => Srt.order2 c_less v.1 v.2.1 v.2.2.1 v.2.2.2.1⟩
def c_order2_h : Nat → Option LH := fun i => if i = 1010004 then some ⟨⟨[], [], []⟩, [(.ret, ⟨[(3, (.oad 0 0)), (10, (.int IntKind.i64)), (11, (.int IntKind.i64))], [(3, (.int IntKind.i64))], []⟩), (.normal, ⟨[(1, (.int IntKind.i64)), (2, (.int IntKind.i64)), (3, (.oad 0 0))], [(3, (.int IntKind.i64))], []⟩)]⟩ else none
def c_order2_g : List (Nat × Ctr) := [(30, c_cmp_c)]
theorem c_order2_eq (v : PDen c_order2_c.ps) : semF tbl (gam c_order2_g) c_order2_h fuelN 32 (bodyOf Try.f73) c_order2_c.ps c_order2_c.rs [10, 11] v = c_order2_c.g v := by kernel_rfl

/- 63: c_median -/
def c_median_c : Ctr := ⟨[.ro (.slice (.st (.pair (.int IntKind.i32) (.int IntKind.i32)))), .ro (.int IntKind.i64), .ro (.int IntKind.i64), .ro (.int IntKind.i64), .mutp (.int IntKind.i64), .ro (.clo 30 .unit)], [.val (.int IntKind.i64)], fun v => Srt.median c_less v.1 v.2.1 v.2.2.1 v.2.2.2.1 v.2.2.2.2.1⟩
def c_median_h : Nat → Option LH := fun i => none
def c_median_g : List (Nat × Ctr) := [(73, c_order2_c)]
theorem c_median_eq (v : PDen c_median_c.ps) : semF tbl (gam c_median_g) c_median_h fuelN 41 (bodyOf Try.f63) c_median_c.ps c_median_c.rs [12] v = c_median_c.g v := by kernel_rfl

/- 62: c_medianAdj -/
def c_medianAdj_c : Ctr := ⟨[.ro (.slice (.st (.pair (.int IntKind.i32) (.int IntKind.i32)))), .ro (.int IntKind.i64), .mutp (.int IntKind.i64), .ro (.clo 30 .unit)], [.val (.int IntKind.i64)], fun v => Srt.medianAdj c_less v.1 v.2.1 v.2.2.1⟩
def c_medianAdj_h : Nat → Option LH := fun i => none
def c_medianAdj_g : List (Nat × Ctr) := [(63, c_median_c)]
theorem c_medianAdj_eq (v : PDen c_medianAdj_c.ps) : semF tbl (gam c_medianAdj_g) c_medianAdj_h fuelN 18 (bodyOf Try.f62) c_medianAdj_c.ps c_medianAdj_c.rs [8] v = c_medianAdj_c.g v := by kernel_rfl

/- 50: c_choosePiv -/
def c_choosePiv_c : Ctr := ⟨[.ro (.slice (.st (.pair (.int IntKind.i32) (.int IntKind.i32)))), .ro (.int IntKind.i64), .ro (.int IntKind.i64), .ro (.clo 30 .unit)], [.val (.int IntKind.i64), .val (.int IntKind.i64)], fun v => Srt.choosePiv c_less v.1 v.2.1 v.2.2.1⟩
def c_choosePiv_h : Nat → Option LH := fun i => if i = 1060012 then some ⟨⟨[], [], []⟩, [(.normal, ⟨[(11, (.oad 0 0)), (13, (.int IntKind.i64))], [(11, (.int IntKind.i64))], []⟩)]⟩ else if i = 1070011 then some ⟨⟨[], [], []⟩, [(.normal, ⟨[(0, (.slice (.st (.pair (.int IntKind.i32) (.int IntKind.i32))))), (11, (.oad 0 0)), (12, (.int IntKind.i64)), (13, (.int IntKind.i64)), (14, (.int IntKind.i64))], [(11, (.int IntKind.i64))], [(3, 30)]⟩)]⟩ else none
def c_choosePiv_g : List (Nat × Ctr) := [(63, c_median_c), (62, c_medianAdj_c)]
theorem c_choosePiv_eq (v : PDen c_choosePiv_c.ps) : semF tbl (gam c_choosePiv_g) c_choosePiv_h fuelN 63 (bodyOf Try.f50) c_choosePiv_c.ps c_choosePiv_c.rs [8, 9] v = c_choosePiv_c.g v := by kernel_rfl

/- 51: c_revRange -/
def c_revRange_c : Ctr := ⟨[.mut (.st (.pair (.int IntKind.i32) (.int IntKind.i32))), .ro (.int IntKind.i64), .ro (.int IntKind.i64), .ro (.clo 30 .unit)], [], fun v => Srt.revRange v.1 v.2.1 v.2.2.1⟩
def c_revRange_h : Nat → Option LH := fun i => if i = 2 then some ⟨⟨[(0, (.ow 0)), (8, (.int IntKind.i64)), (9, (.int IntKind.i64))], [(0, (.st (.pair (.int IntKind.i32) (.int IntKind.i32))))], []⟩, [((.exit 0), ⟨[(0, (.ow 0))], [(0, (.st (.pair (.int IntKind.i32) (.int IntKind.i32))))], []⟩)]⟩ else if i = 1020003 then some ⟨⟨[], [], []⟩, [(.normal, ⟨[(0, (.ow 0)), (8, (.int IntKind.i64)), (9, (.int IntKind.i64))], [(0, (.st (.pair (.int IntKind.i32) (.int IntKind.i32))))], []⟩), ((.exit 0), ⟨[(0, (.ow 0))], [(0, (.st (.pair (.int IntKind.i32) (.int IntKind.i32))))], []⟩)]⟩ else none
def c_revRange_g : List (Nat × Ctr) := []
theorem c_revRange_eq (v : PDen c_revRange_c.ps) : semF tbl (gam c_revRange_g) c_revRange_h fuelN 34 (bodyOf Try.f51) c_revRange_c.ps c_revRange_c.rs [] v = c_revRange_c.g v := by kernel_rfl

/- 52: c_partIns -/
def c_partIns_c : Ctr := ⟨[.mut (.st (.pair (.int IntKind.i32) (.int IntKind.i32))), .ro (.int IntKind.i64), .ro (.int IntKind.i64), .ro (.clo 30 .unit)], [.val .bool], fun v => Srt.partIns c_less v.1 v.2.1 v.2.2.1⟩
def c_partIns_h : Nat → Option LH := fun i => if i = 3 then some ⟨⟨[(0, (.ow 0)), (1, (.int IntKind.i64)), (2, (.int IntKind.i64)), (9, (.int IntKind.i64)), (10, (.int IntKind.i64))], [(0, (.st (.pair (.int IntKind.i32) (.int IntKind.i32))))], [(3, 30)]⟩, [(.ret, ⟨[(0, (.ow 0)), (8, .bool)], [(0, (.st (.pair (.int IntKind.i32) (.int IntKind.i32))))], []⟩), ((.exit 0), ⟨[(0, (.ow 0))], [(0, (.st (.pair (.int IntKind.i32) (.int IntKind.i32))))], []⟩)]⟩ else if i = 1050004 then some ⟨⟨[], [], []⟩, [(.ret, ⟨[(0, (.ow 0)), (8, .bool)], [(0, (.st (.pair (.int IntKind.i32) (.int IntKind.i32))))], []⟩), (.normal, ⟨[(0, (.ow 0)), (1, (.int IntKind.i64)), (2, (.int IntKind.i64)), (9, (.int IntKind.i64)), (10, (.int IntKind.i64))], [(0, (.st (.pair (.int IntKind.i32) (.int IntKind.i32))))], [(3, 30)]⟩)]⟩ else if i = 20 then some ⟨⟨[(0, (.ow 0)), (1, (.int IntKind.i64)), (2, (.int IntKind.i64)), (9, (.int IntKind.i64)), (10, (.int IntKind.i64)), (12, (.int IntKind.i64))], [(0, (.st (.pair (.int IntKind.i32) (.int IntKind.i32))))], [(3, 30)]⟩, [((.exit 6), ⟨[(0, (.ow 0)), (1, (.int IntKind.i64)), (2, (.int IntKind.i64)), (9, (.int IntKind.i64)), (10, (.int IntKind.i64))], [(0, (.st (.pair (.int IntKind.i32) (.int IntKind.i32))))], [(3, 30)]⟩)]⟩ else if i = 1220021 then some ⟨⟨[], [], []⟩, [((.exit 6), ⟨[(0, (.ow 0)), (1, (.int IntKind.i64)), (2, (.int IntKind.i64)), (9, (.int IntKind.i64)), (10, (.int IntKind.i64))], [(0, (.st (.pair (.int IntKind.i32) (.int IntKind.i32))))], [(3, 30)]⟩), (.normal, ⟨[(0, (.ow 0)), (1, (.int IntKind.i64)), (2, (.int IntKind.i64)), (9, (.int IntKind.i64)), (10, (.int IntKind.i64)), (12, (.int IntKind.i64))], [(0, (.st (.pair (.int IntKind.i32) (.int IntKind.i32))))], [(3, 30)]⟩)]⟩ else if i = 1220023 then some ⟨⟨[], [], []⟩, [((.exit 6), ⟨[(0, (.ow 0)), (1, (.int IntKind.i64)), (2, (.int IntKind.i64)), (9, (.int IntKind.i64)), (10, (.int IntKind.i64))], [(0, (.st (.pair (.int IntKind.i32) (.int IntKind.i32))))], [(3, 30)]⟩), (.normal, ⟨[(0, (.ow 0)), (1, (.int IntKind.i64)), (2, (.int IntKind.i64)), (9, (.int IntKind.i64)), (10, (.int IntKind.i64)), (12, (.int IntKind.i64))], [(0, (.st (.pair (.int IntKind.i32) (.int IntKind.i32))))], [(3, 30)]⟩)]⟩ else if i = 1200022 then some ⟨⟨[], [], []⟩, [(.normal, ⟨[(0, (.ow 0)), (1, (.int IntKind.i64)), (2, (.int IntKind.i64)), (9, (.int IntKind.i64)), (10, (.int IntKind.i64)), (12, (.int IntKind.i64))], [(0, (.st (.pair (.int IntKind.i32) (.int IntKind.i32))))], [(3, 30)]⟩), ((.exit 6), ⟨[(0, (.ow 0)), (1, (.int IntKind.i64)), (2, (.int IntKind.i64)), (9, (.int IntKind.i64)), (10, (.int IntKind.i64))], [(0, (.st (.pair (.int IntKind.i32) (.int IntKind.i32))))], [(3, 30)]⟩)]⟩ else if i = 1120018 then some ⟨⟨[], [], []⟩, [(.normal, ⟨[(0, (.ow 0)), (1, (.int IntKind.i64)), (2, (.int IntKind.i64)), (9, (.int IntKind.i64)), (10, (.int IntKind.i64))], [(0, (.st (.pair (.int IntKind.i32) (.int IntKind.i32))))], [(3, 30)]⟩)]⟩ else if i = 14 then some ⟨⟨[(0, (.ow 0)), (1, (.int IntKind.i64)), (2, (.int IntKind.i64)), (9, (.int IntKind.i64)), (10, (.int IntKind.i64)), (11, (.int IntKind.i64))], [(0, (.st (.pair (.int IntKind.i32) (.int IntKind.i32))))], [(3, 30)]⟩, [((.exit 4), ⟨[(0, (.ow 0)), (1, (.int IntKind.i64)), (2, (.int IntKind.i64)), (9, (.int IntKind.i64)), (10, (.int IntKind.i64))], [(0, (.st (.pair (.int IntKind.i32) (.int IntKind.i32))))], [(3, 30)]⟩)]⟩ else if i = 1160015 then some ⟨⟨[], [], []⟩, [((.exit 4), ⟨[(0, (.ow 0)), (1, (.int IntKind.i64)), (2, (.int IntKind.i64)), (9, (.int IntKind.i64)), (10, (.int IntKind.i64))], [(0, (.st (.pair (.int IntKind.i32) (.int IntKind.i32))))], [(3, 30)]⟩), (.normal, ⟨[(0, (.ow 0)), (1, (.int IntKind.i64)), (2, (.int IntKind.i64)), (9, (.int IntKind.i64)), (10, (.int IntKind.i64)), (11, (.int IntKind.i64))], [(0, (.st (.pair (.int IntKind.i32) (.int IntKind.i32))))], [(3, 30)]⟩)]⟩ else if i = 1160017 then some ⟨⟨[], [], []⟩, [((.exit 4), ⟨[(0, (.ow 0)), (1, (.int IntKind.i64)), (2, (.int IntKind.i64)), (9, (.int IntKind.i64)), (10, (.int IntKind.i64))], [(0, (.st (.pair (.int IntKind.i32) (.int IntKind.i32))))], [(3, 30)]⟩), (.normal, ⟨[(0, (.ow 0)), (1, (.int IntKind.i64)), (2, (.int IntKind.i64)), (9, (.int IntKind.i64)), (10, (.int IntKind.i64)), (11, (.int IntKind.i64))], [(0, (.st (.pair (.int IntKind.i32) (.int IntKind.i32))))], [(3, 30)]⟩)]⟩ else if i = 1140016 then some ⟨⟨[], [], []⟩, [(.normal, ⟨[(0, (.ow 0)), (1, (.int IntKind.i64)), (2, (.int IntKind.i64)), (9, (.int IntKind.i64)), (10, (.int IntKind.i64)), (11, (.int IntKind.i64))], [(0, (.st (.pair (.int IntKind.i32) (.int IntKind.i32))))], [(3, 30)]⟩), ((.exit 4), ⟨[(0, (.ow 0)), (1, (.int IntKind.i64)), (2, (.int IntKind.i64)), (9, (.int IntKind.i64)), (10, (.int IntKind.i64))], [(0, (.st (.pair (.int IntKind.i32) (.int IntKind.i32))))], [(3, 30)]⟩)]⟩ else if i = 1090011 then some ⟨⟨[], [], []⟩, [(.ret, ⟨[(0, (.ow 0)), (8, .bool)], [(0, (.st (.pair (.int IntKind.i32) (.int IntKind.i32))))], []⟩), (.normal, ⟨[(0, (.ow 0)), (1, (.int IntKind.i64)), (2, (.int IntKind.i64)), (9, (.int IntKind.i64)), (10, (.int IntKind.i64))], [(0, (.st (.pair (.int IntKind.i32) (.int IntKind.i32))))], [(3, 30)]⟩)]⟩ else if i = 1070009 then some ⟨⟨[], [], []⟩, [(.ret, ⟨[(0, (.ow 0)), (8, .bool)], [(0, (.st (.pair (.int IntKind.i32) (.int IntKind.i32))))], []⟩), (.normal, ⟨[(0, (.ow 0)), (1, (.int IntKind.i64)), (2, (.int IntKind.i64)), (9, (.int IntKind.i64)), (10, (.int IntKind.i64))], [(0, (.st (.pair (.int IntKind.i32) (.int IntKind.i32))))], [(3, 30)]⟩)]⟩ else if i = 1050007 then some ⟨⟨[], [], []⟩, [(.normal, ⟨[(0, (.ow 0)), (1, (.int IntKind.i64)), (2, (.int IntKind.i64)), (9, (.int IntKind.i64)), (10, (.int IntKind.i64))], [(0, (.st (.pair (.int IntKind.i32) (.int IntKind.i32))))], [(3, 30)]⟩)]⟩ else if i = 5 then some ⟨⟨[(0, (.ow 0)), (1, (.int IntKind.i64)), (2, (.int IntKind.i64)), (9, (.int IntKind.i64)), (10, (.int IntKind.i64))], [(0, (.st (.pair (.int IntKind.i32) (.int IntKind.i32))))], [(3, 30)]⟩, [((.exit 2), ⟨[(0, (.ow 0)), (1, (.int IntKind.i64)), (2, (.int IntKind.i64)), (9, (.int IntKind.i64)), (10, (.int IntKind.i64))], [(0, (.st (.pair (.int IntKind.i32) (.int IntKind.i32))))], [(3, 30)]⟩)]⟩ else if i = 1050006 then some ⟨⟨[], [], []⟩, [(.normal, ⟨[(0, (.ow 0)), (1, (.int IntKind.i64)), (2, (.int IntKind.i64)), (9, (.int IntKind.i64)), (10, (.int IntKind.i64))], [(0, (.st (.pair (.int IntKind.i32) (.int IntKind.i32))))], [(3, 30)]⟩), ((.exit 2), ⟨[(0, (.ow 0)), (1, (.int IntKind.i64)), (2, (.int IntKind.i64)), (9, (.int IntKind.i64)), (10, (.int IntKind.i64))], [(0, (.st (.pair (.int IntKind.i32) (.int IntKind.i32))))], [(3, 30)]⟩)]⟩ else if i = 1030005 then some ⟨⟨[], [], []⟩, [(.normal, ⟨[(0, (.ow 0)), (1, (.int IntKind.i64)), (2, (.int IntKind.i64)), (9, (.int IntKind.i64)), (10, (.int IntKind.i64))], [(0, (.st (.pair (.int IntKind.i32) (.int IntKind.i32))))], [(3, 30)]⟩), ((.exit 0), ⟨[(0, (.ow 0))], [(0, (.st (.pair (.int IntKind.i32) (.int IntKind.i32))))], []⟩)]⟩ else none
def c_partIns_g : List (Nat × Ctr) := [(30, c_cmp_c)]
theorem c_partIns_eq (v : PDen c_partIns_c.ps) : semF tbl (gam c_partIns_g) c_partIns_h fuelN 141 (bodyOf Try.f52) c_partIns_c.ps c_partIns_c.rs [8] v = c_partIns_c.g v := by kernel_rfl

/- 53: c_partEq -/
def c_partEq_c : Ctr := ⟨[.mut (.st (.pair (.int IntKind.i32) (.int IntKind.i32))), .ro (.int IntKind.i64), .ro (.int IntKind.i64), .ro (.int IntKind.i64), .ro (.clo 30 .unit)], [.val (.int IntKind.i64)], fun v => Srt.partEq c_less v.1 v.2.1 v.2.2.1 v.2.2.2.1⟩
def c_partEq_h : Nat → Option LH := fun i => if i = 100003 then some ⟨⟨[(0, (.ow 0)), (1, (.int IntKind.i64)), (11, (.int IntKind.i64)), (12, (.int IntKind.i64))], [(0, (.st (.pair (.int IntKind.i32) (.int IntKind.i32))))], [(4, 30)]⟩, [((.exit 0), ⟨[(0, (.ow 0)), (11, (.int IntKind.i64))], [(0, (.st (.pair (.int IntKind.i32) (.int IntKind.i32))))], []⟩)]⟩ else if i = 1070008 then some ⟨⟨[], [], []⟩, [((.exit 0), ⟨[(0, (.ow 0)), (11, (.int IntKind.i64))], [(0, (.st (.pair (.int IntKind.i32) (.int IntKind.i32))))], []⟩), (.normal, ⟨[(0, (.ow 0)), (1, (.int IntKind.i64)), (11, (.int IntKind.i64)), (12, (.int IntKind.i64))], [(0, (.st (.pair (.int IntKind.i32) (.int IntKind.i32))))], [(4, 30)]⟩)]⟩ else if i = 1050007 then some ⟨⟨[], [], []⟩, [(.normal, ⟨[(0, (.ow 0)), (1, (.int IntKind.i64)), (11, (.int IntKind.i64)), (12, (.int IntKind.i64))], [(0, (.st (.pair (.int IntKind.i32) (.int IntKind.i32))))], [(4, 30)]⟩)]⟩ else if i = 5 then some ⟨⟨[(0, (.ow 0)), (1, (.int IntKind.i64)), (11, (.int IntKind.i64)), (12, (.int IntKind.i64))], [(0, (.st (.pair (.int IntKind.i32) (.int IntKind.i32))))], [(4, 30)]⟩, [((.exit 4), ⟨[(0, (.ow 0)), (1, (.int IntKind.i64)), (11, (.int IntKind.i64)), (12, (.int IntKind.i64))], [(0, (.st (.pair (.int IntKind.i32) (.int IntKind.i32))))], [(4, 30)]⟩)]⟩ else if i = 1050006 then some ⟨⟨[], [], []⟩, [(.normal, ⟨[(0, (.ow 0)), (1, (.int IntKind.i64)), (11, (.int IntKind.i64)), (12, (.int IntKind.i64))], [(0, (.st (.pair (.int IntKind.i32) (.int IntKind.i32))))], [(4, 30)]⟩), ((.exit 4), ⟨[(0, (.ow 0)), (1, (.int IntKind.i64)), (11, (.int IntKind.i64)), (12, (.int IntKind.i64))], [(0, (.st (.pair (.int IntKind.i32) (.int IntKind.i32))))], [(4, 30)]⟩)]⟩ else if i = 1030005 then some ⟨⟨[], [], []⟩, [(.normal, ⟨[(0, (.ow 0)), (1, (.int IntKind.i64)), (11, (.int IntKind.i64)), (12, (.int IntKind.i64))], [(0, (.st (.pair (.int IntKind.i32) (.int IntKind.i32))))], [(4, 30)]⟩)]⟩ else if i = 3 then some ⟨⟨[(0, (.ow 0)), (1, (.int IntKind.i64)), (11, (.int IntKind.i64)), (12, (.int IntKind.i64))], [(0, (.st (.pair (.int IntKind.i32) (.int IntKind.i32))))], [(4, 30)]⟩, [((.exit 2), ⟨[(0, (.ow 0)), (1, (.int IntKind.i64)), (11, (.int IntKind.i64)), (12, (.int IntKind.i64))], [(0, (.st (.pair (.int IntKind.i32) (.int IntKind.i32))))], [(4, 30)]⟩)]⟩ else if i = 1030004 then some ⟨⟨[], [], []⟩, [(.normal, ⟨[(0, (.ow 0)), (1, (.int IntKind.i64)), (11, (.int IntKind.i64)), (12, (.int IntKind.i64))], [(0, (.st (.pair (.int IntKind.i32) (.int IntKind.i32))))], [(4, 30)]⟩), ((.exit 2), ⟨[(0, (.ow 0)), (1, (.int IntKind.i64)), (11, (.int IntKind.i64)), (12, (.int IntKind.i64))], [(0, (.st (.pair (.int IntKind.i32) (.int IntKind.i32))))], [(4, 30)]⟩)]⟩ else none
def c_partEq_g : List (Nat × Ctr) := [(30, c_cmp_c)]
theorem c_partEq_eq (v : PDen c_partEq_c.ps) : semF tbl (gam c_partEq_g) c_partEq_h fuelN 90 (bodyOf Try.f53) c_partEq_c.ps c_partEq_c.rs [10] v = c_partEq_c.g v := by kernel_rfl

/- 54: c_partition -/
def c_partition_c : Ctr := ⟨[.mut (.st (.pair (.int IntKind.i32) (.int IntKind.i32))), .ro (.int IntKind.i64), .ro (.int IntKind.i64), .ro (.int IntKind.i64), .ro (.clo 30 .unit)], [.val (.int IntKind.i64), .val .bool], fun v => Srt.partition c_less v.1 v.2.1 v.2.2.1 v.2.2.2.1⟩
def c_partition_h : Nat → Option LH := fun i => if i = 1130021 then some ⟨⟨[], [], []⟩, [(.normal, ⟨[(0, (.ow 0)), (1, (.int IntKind.i64)), (13, (.int IntKind.i64))], [(0, (.st (.pair (.int IntKind.i32) (.int IntKind.i32))))], []⟩)]⟩ else if i = 100013 then some ⟨⟨[(0, (.ow 0)), (1, (.int IntKind.i64)), (12, (.int IntKind.i64)), (13, (.int IntKind.i64))], [(0, (.st (.pair (.int IntKind.i32) (.int IntKind.i32))))], [(4, 30)]⟩, [((.exit 4), ⟨[(0, (.ow 0)), (1, (.int IntKind.i64)), (13, (.int IntKind.i64))], [(0, (.st (.pair (.int IntKind.i32) (.int IntKind.i32))))], []⟩)]⟩ else if i = 1170018 then some ⟨⟨[], [], []⟩, [((.exit 4), ⟨[(0, (.ow 0)), (1, (.int IntKind.i64)), (13, (.int IntKind.i64))], [(0, (.st (.pair (.int IntKind.i32) (.int IntKind.i32))))], []⟩), (.normal, ⟨[(0, (.ow 0)), (1, (.int IntKind.i64)), (12, (.int IntKind.i64)), (13, (.int IntKind.i64))], [(0, (.st (.pair (.int IntKind.i32) (.int IntKind.i32))))], [(4, 30)]⟩)]⟩ else if i = 1150017 then some ⟨⟨[], [], []⟩, [(.normal, ⟨[(0, (.ow 0)), (1, (.int IntKind.i64)), (12, (.int IntKind.i64)), (13, (.int IntKind.i64))], [(0, (.st (.pair (.int IntKind.i32) (.int IntKind.i32))))], [(4, 30)]⟩)]⟩ else if i = 15 then some ⟨⟨[(0, (.ow 0)), (1, (.int IntKind.i64)), (12, (.int IntKind.i64)), (13, (.int IntKind.i64))], [(0, (.st (.pair (.int IntKind.i32) (.int IntKind.i32))))], [(4, 30)]⟩, [((.exit 8), ⟨[(0, (.ow 0)), (1, (.int IntKind.i64)), (12, (.int IntKind.i64)), (13, (.int IntKind.i64))], [(0, (.st (.pair (.int IntKind.i32) (.int IntKind.i32))))], [(4, 30)]⟩)]⟩ else if i = 1150016 then some ⟨⟨[], [], []⟩, [(.normal, ⟨[(0, (.ow 0)), (1, (.int IntKind.i64)), (12, (.int IntKind.i64)), (13, (.int IntKind.i64))], [(0, (.st (.pair (.int IntKind.i32) (.int IntKind.i32))))], [(4, 30)]⟩), ((.exit 8), ⟨[(0, (.ow 0)), (1, (.int IntKind.i64)), (12, (.int IntKind.i64)), (13, (.int IntKind.i64))], [(0, (.st (.pair (.int IntKind.i32) (.int IntKind.i32))))], [(4, 30)]⟩)]⟩ else if i = 1130015 then some ⟨⟨[], [], []⟩, [(.normal, ⟨[(0, (.ow 0)), (1, (.int IntKind.i64)), (12, (.int IntKind.i64)), (13, (.int IntKind.i64))], [(0, (.st (.pair (.int IntKind.i32) (.int IntKind.i32))))], [(4, 30)]⟩)]⟩ else if i = 13 then some ⟨⟨[(0, (.ow 0)), (1, (.int IntKind.i64)), (12, (.int IntKind.i64)), (13, (.int IntKind.i64))], [(0, (.st (.pair (.int IntKind.i32) (.int IntKind.i32))))], [(4, 30)]⟩, [((.exit 6), ⟨[(0, (.ow 0)), (1, (.int IntKind.i64)), (12, (.int IntKind.i64)), (13, (.int IntKind.i64))], [(0, (.st (.pair (.int IntKind.i32) (.int IntKind.i32))))], [(4, 30)]⟩)]⟩ else if i = 1130014 then some ⟨⟨[], [], []⟩, [(.normal, ⟨[(0, (.ow 0)), (1, (.int IntKind.i64)), (12, (.int IntKind.i64)), (13, (.int IntKind.i64))], [(0, (.st (.pair (.int IntKind.i32) (.int IntKind.i32))))], [(4, 30)]⟩), ((.exit 6), ⟨[(0, (.ow 0)), (1, (.int IntKind.i64)), (12, (.int IntKind.i64)), (13, (.int IntKind.i64))], [(0, (.st (.pair (.int IntKind.i32) (.int IntKind.i32))))], [(4, 30)]⟩)]⟩ else if i = 1070010 then some ⟨⟨[], [], []⟩, [(.ret, ⟨[(0, (.ow 0)), (10, (.int IntKind.i64)), (11, .bool)], [(0, (.st (.pair (.int IntKind.i32) (.int IntKind.i32))))], []⟩), (.normal, ⟨[(0, (.ow 0)), (1, (.int IntKind.i64)), (12, (.int IntKind.i64)), (13, (.int IntKind.i64))], [(0, (.st (.pair (.int IntKind.i32) (.int IntKind.i32))))], [(4, 30)]⟩)]⟩ else if i = 1050007 then some ⟨⟨[], [], []⟩, [(.normal, ⟨[(0, (.ow 0)), (1, (.int IntKind.i64)), (12, (.int IntKind.i64)), (13, (.int IntKind.i64))], [(0, (.st (.pair (.int IntKind.i32) (.int IntKind.i32))))], [(4, 30)]⟩)]⟩ else if i = 5 then some ⟨⟨[(0, (.ow 0)), (1, (.int IntKind.i64)), (12, (.int IntKind.i64)), (13, (.int IntKind.i64))], [(0, (.st (.pair (.int IntKind.i32) (.int IntKind.i32))))], [(4, 30)]⟩, [((.exit 2), ⟨[(0, (.ow 0)), (1, (.int IntKind.i64)), (12, (.int IntKind.i64)), (13, (.int IntKind.i64))], [(0, (.st (.pair (.int IntKind.i32) (.int IntKind.i32))))], [(4, 30)]⟩)]⟩ else if i = 1050006 then some ⟨⟨[], [], []⟩, [(.normal, ⟨[(0, (.ow 0)), (1, (.int IntKind.i64)), (12, (.int IntKind.i64)), (13, (.int IntKind.i64))], [(0, (.st (.pair (.int IntKind.i32) (.int IntKind.i32))))], [(4, 30)]⟩), ((.exit 2), ⟨[(0, (.ow 0)), (1, (.int IntKind.i64)), (12, (.int IntKind.i64)), (13, (.int IntKind.i64))], [(0, (.st (.pair (.int IntKind.i32) (.int IntKind.i32))))], [(4, 30)]⟩)]⟩ else if i = 1030005 then some ⟨⟨[], [], []⟩, [(.normal, ⟨[(0, (.ow 0)), (1, (.int IntKind.i64)), (12, (.int IntKind.i64)), (13, (.int IntKind.i64))], [(0, (.st (.pair (.int IntKind.i32) (.int IntKind.i32))))], [(4, 30)]⟩)]⟩ else if i = 3 then some ⟨⟨[(0, (.ow 0)), (1, (.int IntKind.i64)), (12, (.int IntKind.i64)), (13, (.int IntKind.i64))], [(0, (.st (.pair (.int IntKind.i32) (.int IntKind.i32))))], [(4, 30)]⟩, [((.exit 0), ⟨[(0, (.ow 0)), (1, (.int IntKind.i64)), (12, (.int IntKind.i64)), (13, (.int IntKind.i64))], [(0, (.st (.pair (.int IntKind.i32) (.int IntKind.i32))))], [(4, 30)]⟩)]⟩ else if i = 1030004 then some ⟨⟨[], [], []⟩, [(.normal, ⟨[(0, (.ow 0)), (1, (.int IntKind.i64)), (12, (.int IntKind.i64)), (13, (.int IntKind.i64))], [(0, (.st (.pair (.int IntKind.i32) (.int IntKind.i32))))], [(4, 30)]⟩), ((.exit 0), ⟨[(0, (.ow 0)), (1, (.int IntKind.i64)), (12, (.int IntKind.i64)), (13, (.int IntKind.i64))], [(0, (.st (.pair (.int IntKind.i32) (.int IntKind.i32))))], [(4, 30)]⟩)]⟩ else none
def c_partition_g : List (Nat × Ctr) := [(30, c_cmp_c)]
theorem c_partition_eq (v : PDen c_partition_c.ps) : semF tbl (gam c_partition_g) c_partition_h fuelN 178 (bodyOf Try.f54) c_partition_c.ps c_partition_c.rs [10, 11] v = c_partition_c.g v := by kernel_rfl

/- 40: c_pdq0 -/
def c_pdq0_c (c_pdqR : List (Int × Int) → Int → Int → Int → Option (List (Int × Int) × Unit)) : Ctr := ⟨[.mut (.st (.pair (.int IntKind.i32) (.int IntKind.i32))), .ro (.int IntKind.i64), .ro (.int IntKind.i64), .ro (.int IntKind.i64), .ro (.clo 30 .unit)], [], fun v => Srt.pdq0 c_less c_pdqR v.1 v.2.1 v.2.2.1 v.2.2.2.1⟩
def c_pdq0_h : Nat → Option LH := fun i => if i = 2 then some ⟨⟨[(0, (.ow 0)), (1, (.int IntKind.i64)), (2, (.int IntKind.i64)), (3, (.int IntKind.i64)), (10, .bool), (11, .bool)], [(0, (.st (.pair (.int IntKind.i32) (.int IntKind.i32))))], [(4, 30)]⟩, [(.ret, ⟨[(0, (.ow 0))], [(0, (.st (.pair (.int IntKind.i32) (.int IntKind.i32))))], []⟩)]⟩ else if i = 1170020 then some ⟨⟨[], [], []⟩, [((.exit 1), ⟨[(0, (.ow 0)), (1, (.int IntKind.i64)), (2, (.int IntKind.i64)), (3, (.int IntKind.i64)), (10, .bool), (11, .bool)], [(0, (.st (.pair (.int IntKind.i32) (.int IntKind.i32))))], [(4, 30)]⟩), (.normal, ⟨[(0, (.ow 0)), (1, (.int IntKind.i64)), (2, (.int IntKind.i64)), (3, (.int IntKind.i64)), (12, (.int IntKind.i64)), (13, (.int IntKind.i64))], [(0, (.st (.pair (.int IntKind.i32) (.int IntKind.i32))))], [(4, 30)]⟩)]⟩ else if i = 1170018 then some ⟨⟨[], [], []⟩, [(.normal, ⟨[(0, (.ow 0)), (1, (.int IntKind.i64)), (2, (.int IntKind.i64)), (3, (.int IntKind.i64)), (10, .bool), (11, .bool), (12, (.int IntKind.i64)), (13, (.int IntKind.i64)), (97, .bool)], [(0, (.st (.pair (.int IntKind.i32) (.int IntKind.i32))))], [(4, 30)]⟩)]⟩ else if i = 1150017 then some ⟨⟨[], [], []⟩, [(.ret, ⟨[(0, (.ow 0))], [(0, (.st (.pair (.int IntKind.i32) (.int IntKind.i32))))], []⟩), (.normal, ⟨[(0, (.ow 0)), (1, (.int IntKind.i64)), (2, (.int IntKind.i64)), (3, (.int IntKind.i64)), (10, .bool), (11, .bool), (12, (.int IntKind.i64)), (13, (.int IntKind.i64))], [(0, (.st (.pair (.int IntKind.i32) (.int IntKind.i32))))], [(4, 30)]⟩)]⟩ else if i = 1150016 then some ⟨⟨[], [], []⟩, [(.normal, ⟨[(0, (.ow 0)), (1, (.int IntKind.i64)), (2, (.int IntKind.i64)), (3, (.int IntKind.i64)), (10, .bool), (11, .bool), (12, (.int IntKind.i64)), (13, (.int IntKind.i64)), (75, .bool)], [(0, (.st (.pair (.int IntKind.i32) (.int IntKind.i32))))], [(4, 30)]⟩)]⟩ else if i = 1110015 then some ⟨⟨[], [], []⟩, [(.normal, ⟨[(0, (.ow 0)), (1, (.int IntKind.i64)), (2, (.int IntKind.i64)), (3, (.int IntKind.i64)), (10, .bool), (11, .bool), (12, (.int IntKind.i64)), (13, (.int IntKind.i64)), (14, (.int IntKind.i64))], [(0, (.st (.pair (.int IntKind.i32) (.int IntKind.i32))))], [(4, 30)]⟩)]⟩ else if i = 1070010 then some ⟨⟨[], [], []⟩, [(.normal, ⟨[(0, (.ow 0)), (1, (.int IntKind.i64)), (2, (.int IntKind.i64)), (3, (.int IntKind.i64)), (10, .bool), (11, .bool), (12, (.int IntKind.i64))], [(0, (.st (.pair (.int IntKind.i32) (.int IntKind.i32))))], [(4, 30)]⟩)]⟩ else if i = 1050007 then some ⟨⟨[], [], []⟩, [(.ret, ⟨[(0, (.ow 0))], [(0, (.st (.pair (.int IntKind.i32) (.int IntKind.i32))))], []⟩), (.normal, ⟨[(0, (.ow 0)), (1, (.int IntKind.i64)), (2, (.int IntKind.i64)), (3, (.int IntKind.i64)), (10, .bool), (11, .bool), (12, (.int IntKind.i64))], [(0, (.st (.pair (.int IntKind.i32) (.int IntKind.i32))))], [(4, 30)]⟩)]⟩ else if i = 1030005 then some ⟨⟨[], [], []⟩, [(.ret, ⟨[(0, (.ow 0))], [(0, (.st (.pair (.int IntKind.i32) (.int IntKind.i32))))], []⟩), (.normal, ⟨[(0, (.ow 0)), (1, (.int IntKind.i64)), (2, (.int IntKind.i64)), (3, (.int IntKind.i64)), (10, .bool), (11, .bool), (12, (.int IntKind.i64))], [(0, (.st (.pair (.int IntKind.i32) (.int IntKind.i32))))], [(4, 30)]⟩)]⟩ else none
def c_pdq0_g (c_pdqR : List (Int × Int) → Int → Int → Int → Option (List (Int × Int) × Unit)) : List (Nat × Ctr) := [(30, c_cmp_c), (47, c_insSort_c), (48, c_heapSort_c), (49, c_breakPat_c), (50, c_choosePiv_c), (51, c_revRange_c), (52, c_partIns_c), (53, c_partEq_c), (54, c_partition_c), (40, (c_pdqR_cR c_pdqR))]
theorem c_pdq0_eq (c_pdqR : List (Int × Int) → Int → Int → Int → Option (List (Int × Int) × Unit)) (v : PDen (c_pdq0_c c_pdqR).ps) : semF tbl (gam (c_pdq0_g c_pdqR)) c_pdq0_h fuelN 148 (bodyOf Try.f40) (c_pdq0_c c_pdqR).ps (c_pdq0_c c_pdqR).rs [] v = (c_pdq0_c c_pdqR).g v := by kernel_rfl

/- 29: c_sortG -/
def c_sortG_c (c_pdqR : List (Int × Int) → Int → Int → Int → Option (List (Int × Int) × Unit)) : Ctr := ⟨[.mut (.st (.pair (.int IntKind.i32) (.int IntKind.i32))), .ro (.clo 30 .unit)], [], fun v => Srt.sortG c_pdqR v.1⟩
def c_sortG_h : Nat → Option LH := fun i => none
def c_sortG_g (c_pdqR : List (Int × Int) → Int → Int → Int → Option (List (Int × Int) × Unit)) : List (Nat × Ctr) := [(41, i_bitsLen_c), (40, (c_pdqR_cR c_pdqR))]
theorem c_sortG_eq (c_pdqR : List (Int × Int) → Int → Int → Int → Option (List (Int × Int) × Unit)) (v : PDen (c_sortG_c c_pdqR).ps) : semF tbl (gam (c_sortG_g c_pdqR)) c_sortG_h fuelN 14 (bodyOf Try.f29) (c_sortG_c c_pdqR).ps (c_sortG_c c_pdqR).rs [] v = (c_sortG_c c_pdqR).g v := by kernel_rfl

/- 12: trema/tremaref05.Same -/
def refSame_s4 (a0 : List (Int × Int)) (a1 : List (Int × Int)) (a5 : Int) : Option (((List (Int × Int) × (List (Int × Int) × (Int × Unit))) × Unit) ⊕ (((Bool × Unit) × Unit) ⊕ (Unit × Unit))) :=
 (Option.bind (show Option (((List (Int × Int) × (List (Int × Int) × (Int × Unit))) × Unit) ⊕ (Unit × Unit)) from
 bif (decide (a5 < (a0.length : Int))) then
 some (.inl ((a0, (a1, (a5, ()))), ()))
 else
 some (.inr ((), ()))) fun y6 =>
 (match y6 with
 | .inl y6 =>
 (Option.bind (show Option (((Bool × Unit) × Unit) ⊕ ((List (Int × Int) × (List (Int × Int) × (Int × Unit))) × Unit)) from
 (Option.bind (lk y6.1.1 y6.1.2.2.1) fun x8 =>
 (Option.bind (lk y6.1.2.1 y6.1.2.2.1) fun x9 =>
 bif (!((decide (x8.1 = x9.1) && decide (x8.2 = x9.2)))) then
 some (.inl ((false, ()), ()))
 else
 some (.inr ((y6.1.1, (y6.1.2.1, (y6.1.2.2.1, ()))), ()))))) fun y10 =>
 (match y10 with
 | .inl y10 =>
 some (.inr (.inl ((y10.1.1, ()), ())))
 | .inr y10 =>
 some (.inl ((y10.1.1, (y10.1.2.1, ((IntKind.i64.wrap (y10.1.2.2.1 + (1 : Int))), ()))), ()))))
 | .inr y6 =>
 some (.inr (.inr ((), ())))))

def refSame (p0 : List (Int × Int)) (p1 : List (Int × Int)) : Option (Unit × (Bool × Unit)) :=
 (Option.bind (show Option (((Bool × Unit) × Unit) ⊕ ((List (Int × Int) × (List (Int × Int) × Unit)) × Unit)) from
 bif ((p0.length : Int) != (p1.length : Int)) then
 some (.inl ((false, ()), ()))
 else
 some (.inr ((p0, (p1, ())), ()))) fun y2 =>
 (match y2 with
 | .inl y2 =>
 some ((), (y2.1.1, ()))
 | .inr y2 =>
 (Option.bind (iterN (fun x => refSame_s4 x.1.1 x.1.2.1 x.1.2.2.1) fuelN ((y2.1.1, (y2.1.2.1, ((0 : Int), ()))), ())) fun y11 =>
 (match y11 with
 | .inl y11 =>
 some ((), (y11.1.1, ()))
 | .inr y11 =>
 some ((), (true, ()))))))


def refSame_c : Ctr := ⟨[.ro (.slice (.st (.pair (.int IntKind.i32) (.int IntKind.i32)))), .ro (.slice (.st (.pair (.int IntKind.i32) (.int IntKind.i32))))], [.val .bool], fun v => refSame v.1 v.2.1⟩
def refSame_h : Nat → Option LH := fun i => if i = 4 then some ⟨⟨[(0, (.slice (.st (.pair (.int IntKind.i32) (.int IntKind.i32))))), (1, (.slice (.st (.pair (.int IntKind.i32) (.int IntKind.i32))))), (5, (.int IntKind.i64))], [], []⟩, [(.ret, ⟨[(4, .bool)], [], []⟩), ((.exit 0), ⟨[], [], []⟩)]⟩ else if i = 1060005 then some ⟨⟨[], [], []⟩, [(.ret, ⟨[(4, .bool)], [], []⟩), (.normal, ⟨[(0, (.slice (.st (.pair (.int IntKind.i32) (.int IntKind.i32))))), (1, (.slice (.st (.pair (.int IntKind.i32) (.int IntKind.i32))))), (5, (.int IntKind.i64))], [], []⟩)]⟩ else if i = 1040006 then some ⟨⟨[], [], []⟩, [(.normal, ⟨[(0, (.slice (.st (.pair (.int IntKind.i32) (.int IntKind.i32))))), (1, (.slice (.st (.pair (.int IntKind.i32) (.int IntKind.i32))))), (5, (.int IntKind.i64))], [], []⟩), ((.exit 0), ⟨[], [], []⟩)]⟩ else if i = 1010003 then some ⟨⟨[], [], []⟩, [(.ret, ⟨[(4, .bool)], [], []⟩), (.normal, ⟨[(0, (.slice (.st (.pair (.int IntKind.i32) (.int IntKind.i32))))), (1, (.slice (.st (.pair (.int IntKind.i32) (.int IntKind.i32)))))], [], []⟩)]⟩ else none
def refSame_g : List (Nat × Ctr) := []
theorem refSame_eq (v : PDen refSame_c.ps) : semF tbl (gam refSame_g) refSame_h fuelN 26 (bodyOf Try.f12) refSame_c.ps refSame_c.rs [4] v = refSame_c.g v := by kernel_rfl

/- 28: trema/tremaref05.clipped -/
def refClipped_s2 (a0 : List (Int × Int)) (a4 : Int) (g3 : List (Int × Int)) : Option (((List (Int × Int) × (Int × Unit)) × (List (Int × Int) × Unit)) ⊕ (Unit × (List (Int × Int) × Unit))) :=
 (Option.bind (show Option (((List (Int × Int) × (Int × Unit)) × (List (Int × Int) × Unit)) ⊕ (Unit × (List (Int × Int) × Unit))) from
 bif (decide (a4 < (a0.length : Int))) then
 some (.inl ((a0, (a4, ())), (g3, ())))
 else
 some (.inr ((), (g3, ())))) fun y4 =>
 (match y4 with
 | .inl y4 =>
 (Option.bind (show Option ((List (Int × Int) × (Int × Unit)) × (List (Int × Int) × Unit)) from
 (Option.bind (lk y4.1.1 y4.1.2.1) fun x6 =>
 (Option.bind (show Option ((List (Int × Int) × (Int × (Int × Unit))) × (List (Int × Int) × (List (Int × Int) × Unit))) from
 bif (decide (x6.1 < (0 : Int))) then
 some ((y4.1.1, (y4.1.2.1, ((0 : Int), ()))), (y4.2.1, ([((0 : Int), x6.2)], ())))
 else
 some ((y4.1.1, (y4.1.2.1, ((0 : Int), ()))), (y4.2.1, ([x6], ())))) fun y8 =>
 (Option.bind (show Option ((List (Int × Int) × (Int × (Int × Unit))) × (List (Int × Int) × (List (Int × Int) × Unit))) from
 (Option.bind (lk y8.2.2.1 y8.1.2.2.1) fun x10 =>
 bif (decide (x10.2 > (1114111 : Int))) then
 (Option.bind (lk y8.2.2.1 y8.1.2.2.1) fun x11 =>
 some ((y8.1.1, (y8.1.2.1, (y8.1.2.2.1, ()))), (y8.2.1, ((y8.2.2.1.set y8.1.2.2.1.toNat (x11.1, (1114111 : Int))), ()))))
 else
 some ((y8.1.1, (y8.1.2.1, (y8.1.2.2.1, ()))), (y8.2.1, (y8.2.2.1, ()))))) fun y12 =>
 (Option.bind (lk y12.2.2.1 y12.1.2.2.1) fun x13 =>
 (Option.bind (lk y12.2.2.1 y12.1.2.2.1) fun x14 =>
 bif (decide (x13.1 ≤ x14.2)) then
 (Option.bind (lk y12.2.2.1 y12.1.2.2.1) fun x15 =>
 bif (roomOk (y12.2.1.length + [x15].length) 8) then
 some ((y12.1.1, (y12.1.2.1, ())), ((y12.2.1 ++ [x15]), ()))
 else none)
 else
 some ((y12.1.1, (y12.1.2.1, ())), (y12.2.1, ())))))))) fun y16 =>
 some (.inl ((y16.1.1, ((IntKind.i64.wrap (y16.1.2.1 + (1 : Int))), ())), (y16.2.1, ()))))
 | .inr y4 =>
 some (.inr ((), (y4.2.1, ())))))

def refClipped (p0 : List (Int × Int)) : Option (Unit × (List (Int × Int) × Unit)) :=
 (Option.bind (iterN (fun x => refClipped_s2 x.1.1 x.1.2.1 x.2.1) fuelN ((p0, ((0 : Int), ())), (([] : List (Int × Int)), ()))) fun y17 =>
 some ((), (y17.2.1, ())))


def refClipped_c : Ctr := ⟨[.ro (.slice (.st (.pair (.int IntKind.i32) (.int IntKind.i32))))], [.val (.slice (.st (.pair (.int IntKind.i32) (.int IntKind.i32))))], fun v => refClipped v.1⟩
def refClipped_h : Nat → Option LH := fun i => if i = 3 then some ⟨⟨[(0, (.slice (.st (.pair (.int IntKind.i32) (.int IntKind.i32))))), (3, (.ow 0)), (4, (.int IntKind.i64))], [(3, (.st (.pair (.int IntKind.i32) (.int IntKind.i32))))], []⟩, [((.exit 0), ⟨[(3, (.ow 0))], [(3, (.st (.pair (.int IntKind.i32) (.int IntKind.i32))))], []⟩)]⟩ else if i = 1050004 then some ⟨⟨[], [], []⟩, [(.normal, ⟨[(0, (.slice (.st (.pair (.int IntKind.i32) (.int IntKind.i32))))), (3, (.ow 0)), (4, (.int IntKind.i64))], [(3, (.st (.pair (.int IntKind.i32) (.int IntKind.i32))))], []⟩)]⟩ else if i = 1080010 then some ⟨⟨[], [], []⟩, [(.normal, ⟨[(0, (.slice (.st (.pair (.int IntKind.i32) (.int IntKind.i32))))), (3, (.ow 0)), (4, (.int IntKind.i64)), (5, (.oad 1 0))], [(3, (.st (.pair (.int IntKind.i32) (.int IntKind.i32)))), (5, (.st (.pair (.int IntKind.i32) (.int IntKind.i32))))], []⟩)]⟩ else if i = 1060008 then some ⟨⟨[], [], []⟩, [(.normal, ⟨[(0, (.slice (.st (.pair (.int IntKind.i32) (.int IntKind.i32))))), (3, (.ow 0)), (4, (.int IntKind.i64)), (5, (.oad 1 0))], [(3, (.st (.pair (.int IntKind.i32) (.int IntKind.i32)))), (5, (.st (.pair (.int IntKind.i32) (.int IntKind.i32))))], []⟩)]⟩ else if i = 1030005 then some ⟨⟨[], [], []⟩, [(.normal, ⟨[(0, (.slice (.st (.pair (.int IntKind.i32) (.int IntKind.i32))))), (3, (.ow 0)), (4, (.int IntKind.i64))], [(3, (.st (.pair (.int IntKind.i32) (.int IntKind.i32))))], []⟩), ((.exit 0), ⟨[(3, (.ow 0))], [(3, (.st (.pair (.int IntKind.i32) (.int IntKind.i32))))], []⟩)]⟩ else none
def refClipped_g : List (Nat × Ctr) := []
theorem refClipped_eq (v : PDen refClipped_c.ps) : semF tbl (gam refClipped_g) refClipped_h fuelN 34 (bodyOf Try.f28) refClipped_c.ps refClipped_c.rs [2] v = refClipped_c.g v := by kernel_rfl

/- 27: trema/tremaref05.sorted -/
def refSorted0_s8 (a3 : List (Int × Int)) (a4 : List (Int × Int)) (a6 : Int) (a7 : Int) (g5 : List (Int × Int)) : Option (((List (Int × Int) × (List (Int × Int) × (Int × (Int × Unit)))) × (List (Int × Int) × Unit)) ⊕ (Unit × (List (Int × Int) × Unit))) :=
 (Option.bind (show Option (((List (Int × Int) × (List (Int × Int) × (Int × (Int × Unit)))) × (List (Int × Int) × Unit)) ⊕ (Unit × (List (Int × Int) × Unit))) from
 bif (decide (a6 < (a3.length : Int))) then
 some (.inl ((a3, (a4, (a6, (a7, ())))), (g5, ())))
 else
 bif (decide (a7 < (a4.length : Int))) then
 some (.inl ((a3, (a4, (a6, (a7, ())))), (g5, ())))
 else
 some (.inr ((), (g5, ())))) fun y10 =>
 (match y10 with
 | .inl y10 =>
 (Option.bind (show Option ((List (Int × Int) × (List (Int × Int) × (Int × (Int × (Bool × Unit))))) × (List (Int × Int) × Unit)) from
 bif (y10.1.2.2.2.1 == (y10.1.2.1.length : Int)) then
 some ((y10.1.1, (y10.1.2.1, (y10.1.2.2.1, (y10.1.2.2.2.1, (true, ()))))), (y10.2.1, ()))
 else
 bif (decide (y10.1.2.2.1 < (y10.1.1.length : Int))) then
 (Option.bind (lk y10.1.1 y10.1.2.2.1) fun x12 =>
 (Option.bind (lk y10.1.2.1 y10.1.2.2.2.1) fun x13 =>
 some ((y10.1.1, (y10.1.2.1, (y10.1.2.2.1, (y10.1.2.2.2.1, ((decide (x12.1 ≤ x13.1)), ()))))), (y10.2.1, ()))))
 else
 some ((y10.1.1, (y10.1.2.1, (y10.1.2.2.1, (y10.1.2.2.2.1, (false, ()))))), (y10.2.1, ()))) fun y14 =>
 bif y14.1.2.2.2.2.1 then
 (Option.bind (lk y14.1.1 y14.1.2.2.1) fun x15 =>
 bif (roomOk (y14.2.1.length + [x15].length) 8) then
 some (.inl ((y14.1.1, (y14.1.2.1, ((IntKind.i64.wrap (y14.1.2.2.1 + (1 : Int))), (y14.1.2.2.2.1, ())))), ((y14.2.1 ++ [x15]), ())))
 else none)
 else
 (Option.bind (lk y14.1.2.1 y14.1.2.2.2.1) fun x16 =>
 bif (roomOk (y14.2.1.length + [x16].length) 8) then
 some (.inl ((y14.1.1, (y14.1.2.1, (y14.1.2.2.1, ((IntKind.i64.wrap (y14.1.2.2.2.1 + (1 : Int))), ())))), ((y14.2.1 ++ [x16]), ())))
 else none))
 | .inr y10 =>
 some (.inr ((), (y10.2.1, ())))))

def refSorted0 (refSorted : List (Int × Int) → Option (Unit × (List (Int × Int) × Unit))) (p0 : List (Int × Int)) : Option (Unit × (List (Int × Int) × Unit)) :=
 (Option.bind (show Option (((List (Int × Int) × Unit) × Unit) ⊕ ((List (Int × Int) × Unit) × Unit)) from
 bif (decide ((p0.length : Int) < (2 : Int))) then
 some (.inl ((p0, ()), ()))
 else
 some (.inr ((p0, ()), ()))) fun y2 =>
 (match y2 with
 | .inl y2 =>
 some ((), (y2.1.1, ()))
 | .inr y2 =>
 bif ((2 : Int) != 0) then
 let v3 := (IntKind.i64.wrap (Int.tdiv (y2.1.1.length : Int) (2 : Int)))
 bif (inB (0 : Int) v3 y2.1.1.length) then
 (Option.bind (refSorted (cut y2.1.1 (0 : Int) v3)) fun r4 =>
 bif ((2 : Int) != 0) then
 let v5 := (IntKind.i64.wrap (Int.tdiv (y2.1.1.length : Int) (2 : Int)))
 bif (inB v5 (y2.1.1.length : Int) y2.1.1.length) then
 (Option.bind (refSorted (cut y2.1.1 v5 (y2.1.1.length : Int))) fun r6 =>
 (Option.bind (iterN (fun x => refSorted0_s8 x.1.1 x.1.2.1 x.1.2.2.1 x.1.2.2.2.1 x.2.1) fuelN ((r4.2.1, (r6.2.1, ((0 : Int), ((0 : Int), ())))), (([] : List (Int × Int)), ()))) fun y17 =>
 some ((), (y17.2.1, ()))))
 else none
 else none)
 else none
 else none))


def refSorted0_c (refSorted : List (Int × Int) → Option (Unit × (List (Int × Int) × Unit))) : Ctr := ⟨[.ro (.slice (.st (.pair (.int IntKind.i32) (.int IntKind.i32))))], [.val (.slice (.st (.pair (.int IntKind.i32) (.int IntKind.i32))))], fun v => refSorted0 refSorted v.1⟩
def refSorted0_h : Nat → Option LH := fun i => if i = 6 then some ⟨⟨[(3, (.slice (.st (.pair (.int IntKind.i32) (.int IntKind.i32))))), (4, (.slice (.st (.pair (.int IntKind.i32) (.int IntKind.i32))))), (5, (.ow 0)), (6, (.int IntKind.i64)), (7, (.int IntKind.i64))], [(5, (.st (.pair (.int IntKind.i32) (.int IntKind.i32))))], []⟩, [((.exit 0), ⟨[(5, (.ow 0))], [(5, (.st (.pair (.int IntKind.i32) (.int IntKind.i32))))], []⟩)]⟩ else if i = 1070008 then some ⟨⟨[], [], []⟩, [(.normal, ⟨[(3, (.slice (.st (.pair (.int IntKind.i32) (.int IntKind.i32))))), (4, (.slice (.st (.pair (.int IntKind.i32) (.int IntKind.i32))))), (5, (.ow 0)), (6, (.int IntKind.i64)), (7, (.int IntKind.i64)), (56, .bool)], [(5, (.st (.pair (.int IntKind.i32) (.int IntKind.i32))))], []⟩)]⟩ else if i = 1060007 then some ⟨⟨[], [], []⟩, [(.normal, ⟨[(3, (.slice (.st (.pair (.int IntKind.i32) (.int IntKind.i32))))), (4, (.slice (.st (.pair (.int IntKind.i32) (.int IntKind.i32))))), (5, (.ow 0)), (6, (.int IntKind.i64)), (7, (.int IntKind.i64))], [(5, (.st (.pair (.int IntKind.i32) (.int IntKind.i32))))], []⟩), ((.exit 0), ⟨[(5, (.ow 0))], [(5, (.st (.pair (.int IntKind.i32) (.int IntKind.i32))))], []⟩)]⟩ else if i = 1010003 then some ⟨⟨[], [], []⟩, [(.ret, ⟨[(2, (.slice (.st (.pair (.int IntKind.i32) (.int IntKind.i32)))))], [], []⟩), (.normal, ⟨[(0, (.slice (.st (.pair (.int IntKind.i32) (.int IntKind.i32)))))], [], []⟩)]⟩ else none
def refSorted0_g (refSorted : List (Int × Int) → Option (Unit × (List (Int × Int) × Unit))) : List (Nat × Ctr) := [(27, (refSorted_cR refSorted))]
theorem refSorted0_eq (refSorted : List (Int × Int) → Option (Unit × (List (Int × Int) × Unit))) (v : PDen (refSorted0_c refSorted).ps) : semF tbl (gam (refSorted0_g refSorted)) refSorted0_h fuelN 76 (bodyOf Try.f27) (refSorted0_c refSorted).ps (refSorted0_c refSorted).rs [2] v = (refSorted0_c refSorted).g v := by kernel_rfl

def refSortedN : Nat → List (Int × Int) → Option (Unit × (List (Int × Int) × Unit))
  | 0 => fun _ => none
  | k + 1 => refSorted0 (refSortedN k)
def refSorted (l : List (Int × Int)) : Option (Unit × (List (Int × Int) × Unit)) := refSortedN (l.length + 1) l
def refSorted_c : Ctr := refSorted_cR refSorted

/- 11: trema/tremaref05.Norm -/
def refNorm_s10 (a3 : List (Int × Int)) (a5 : Int) (a6 : Int) (g4 : List (Int × Int)) (g6 : List (Int × Int)) : Option (((List (Int × Int) × (Int × (Int × Unit))) × (List (Int × Int) × (List (Int × Int) × Unit))) ⊕ ((List (Int × Int) × (Int × (Int × Unit))) × (List (Int × Int) × (List (Int × Int) × Unit)))) :=
 (Option.bind (show Option (((List (Int × Int) × (Int × (Int × Unit))) × (List (Int × Int) × (List (Int × Int) × Unit))) ⊕ ((List (Int × Int) × (Int × (Int × Unit))) × (List (Int × Int) × (List (Int × Int) × Unit)))) from
 bif (decide (a5 < (a3.length : Int))) then
 (Option.bind (lk a3 a5) fun x12 =>
 (Option.bind (lk g6 a6) fun x13 =>
 bif (decide (x12.1 ≤ (IntKind.i32.wrap (x13.2 + (1 : Int))))) then
 some (.inl ((a3, (a5, (a6, ()))), (g4, (g6, ()))))
 else
 some (.inr ((a3, (a5, (a6, ()))), (g4, (g6, ()))))))
 else
 some (.inr ((a3, (a5, (a6, ()))), (g4, (g6, ()))))) fun y14 =>
 (match y14 with
 | .inl y14 =>
 (Option.bind (show Option ((List (Int × Int) × (Int × (Int × Unit))) × (List (Int × Int) × (List (Int × Int) × Unit))) from
 (Option.bind (lk y14.1.1 y14.1.2.1) fun x16 =>
 (Option.bind (lk y14.2.2.1 y14.1.2.2.1) fun x17 =>
 bif (decide (x16.2 > x17.2)) then
 (Option.bind (lk y14.1.1 y14.1.2.1) fun x18 =>
 (Option.bind (lk y14.2.2.1 y14.1.2.2.1) fun x19 =>
 some ((y14.1.1, (y14.1.2.1, (y14.1.2.2.1, ()))), (y14.2.1, ((y14.2.2.1.set y14.1.2.2.1.toNat (x19.1, x18.2)), ())))))
 else
 some ((y14.1.1, (y14.1.2.1, (y14.1.2.2.1, ()))), (y14.2.1, (y14.2.2.1, ())))))) fun y20 =>
 some (.inl ((y20.1.1, ((IntKind.i64.wrap (y20.1.2.1 + (1 : Int))), (y20.1.2.2.1, ()))), (y20.2.1, (y20.2.2.1, ())))))
 | .inr y14 =>
 some (.inr ((y14.1.1, (y14.1.2.1, (y14.1.2.2.1, ()))), (y14.2.1, (y14.2.2.1, ()))))))

def refNorm_s4 (a3 : List (Int × Int)) (a5 : Int) (g4 : List (Int × Int)) : Option (((List (Int × Int) × (Int × Unit)) × (List (Int × Int) × Unit)) ⊕ (Unit × (List (Int × Int) × Unit))) :=
 (Option.bind (show Option (((List (Int × Int) × (Int × Unit)) × (List (Int × Int) × Unit)) ⊕ (Unit × (List (Int × Int) × Unit))) from
 bif (decide (a5 < (a3.length : Int))) then
 some (.inl ((a3, (a5, ())), (g4, ())))
 else
 some (.inr ((), (g4, ())))) fun y6 =>
 (match y6 with
 | .inl y6 =>
 (Option.bind (lk y6.1.1 y6.1.2.1) fun x7 =>
 (Option.bind (show Option ((List (Int × Int) × (Int × (Int × Unit))) × (List (Int × Int) × (List (Int × Int) × Unit))) from
 (Option.bind (iterN (fun x => refNorm_s10 x.1.1 x.1.2.1 x.1.2.2.1 x.2.1 x.2.2.1) fuelN ((y6.1.1, ((IntKind.i64.wrap (y6.1.2.1 + (1 : Int))), ((0 : Int), ()))), (y6.2.1, ([x7], ())))) fun y21 =>
 some ((y21.1.1, (y21.1.2.1, (y21.1.2.2.1, ()))), (y21.2.1, (y21.2.2.1, ()))))) fun y22 =>
 (Option.bind (lk y22.2.2.1 y22.1.2.2.1) fun x23 =>
 bif (roomOk (y22.2.1.length + [x23].length) 8) then
 some (.inl ((y22.1.1, (y22.1.2.1, ())), ((y22.2.1 ++ [x23]), ())))
 else none)))
 | .inr y6 =>
 some (.inr ((), (y6.2.1, ())))))

def refNorm (p0 : List (Int × Int)) : Option (Unit × (List (Int × Int) × Unit)) :=
 (Option.bind (refClipped p0) fun r1 =>
 (Option.bind (refSorted r1.2.1) fun r2 =>
 (Option.bind (iterN (fun x => refNorm_s4 x.1.1 x.1.2.1 x.2.1) fuelN ((r2.2.1, ((0 : Int), ())), (([] : List (Int × Int)), ()))) fun y24 =>
 some ((), (y24.2.1, ())))))


def refNorm_c : Ctr := ⟨[.ro (.slice (.st (.pair (.int IntKind.i32) (.int IntKind.i32))))], [.val (.slice (.st (.pair (.int IntKind.i32) (.int IntKind.i32))))], fun v => refNorm v.1⟩
def refNorm_h : Nat → Option LH := fun i => if i = 4 then some ⟨⟨[(3, (.slice (.st (.pair (.int IntKind.i32) (.int IntKind.i32))))), (4, (.ow 0)), (5, (.int IntKind.i64))], [(4, (.st (.pair (.int IntKind.i32) (.int IntKind.i32))))], []⟩, [((.exit 0), ⟨[(4, (.ow 0))], [(4, (.st (.pair (.int IntKind.i32) (.int IntKind.i32))))], []⟩)]⟩ else if i = 1070011 then some ⟨⟨[], [], []⟩, [(.normal, ⟨[(3, (.slice (.st (.pair (.int IntKind.i32) (.int IntKind.i32))))), (4, (.ow 0)), (5, (.int IntKind.i64)), (6, (.oad 1 0))], [(4, (.st (.pair (.int IntKind.i32) (.int IntKind.i32)))), (6, (.st (.pair (.int IntKind.i32) (.int IntKind.i32))))], []⟩)]⟩ else if i = 7 then some ⟨⟨[(3, (.slice (.st (.pair (.int IntKind.i32) (.int IntKind.i32))))), (4, (.ow 0)), (5, (.int IntKind.i64)), (6, (.oad 1 0))], [(4, (.st (.pair (.int IntKind.i32) (.int IntKind.i32)))), (6, (.st (.pair (.int IntKind.i32) (.int IntKind.i32))))], []⟩, [((.exit 2), ⟨[(3, (.slice (.st (.pair (.int IntKind.i32) (.int IntKind.i32))))), (4, (.ow 0)), (5, (.int IntKind.i64)), (6, (.oad 1 0))], [(4, (.st (.pair (.int IntKind.i32) (.int IntKind.i32)))), (6, (.st (.pair (.int IntKind.i32) (.int IntKind.i32))))], []⟩)]⟩ else if i = 1080010 then some ⟨⟨[], [], []⟩, [(.normal, ⟨[(3, (.slice (.st (.pair (.int IntKind.i32) (.int IntKind.i32))))), (4, (.ow 0)), (5, (.int IntKind.i64)), (6, (.oad 1 0))], [(4, (.st (.pair (.int IntKind.i32) (.int IntKind.i32)))), (6, (.st (.pair (.int IntKind.i32) (.int IntKind.i32))))], []⟩)]⟩ else if i = 1070008 then some ⟨⟨[], [], []⟩, [(.normal, ⟨[(3, (.slice (.st (.pair (.int IntKind.i32) (.int IntKind.i32))))), (4, (.ow 0)), (5, (.int IntKind.i64)), (6, (.oad 1 0))], [(4, (.st (.pair (.int IntKind.i32) (.int IntKind.i32)))), (6, (.st (.pair (.int IntKind.i32) (.int IntKind.i32))))], []⟩), ((.exit 2), ⟨[(3, (.slice (.st (.pair (.int IntKind.i32) (.int IntKind.i32))))), (4, (.ow 0)), (5, (.int IntKind.i64)), (6, (.oad 1 0))], [(4, (.st (.pair (.int IntKind.i32) (.int IntKind.i32)))), (6, (.st (.pair (.int IntKind.i32) (.int IntKind.i32))))], []⟩)]⟩ else if i = 1040005 then some ⟨⟨[], [], []⟩, [(.normal, ⟨[(3, (.slice (.st (.pair (.int IntKind.i32) (.int IntKind.i32))))), (4, (.ow 0)), (5, (.int IntKind.i64))], [(4, (.st (.pair (.int IntKind.i32) (.int IntKind.i32))))], []⟩), ((.exit 0), ⟨[(4, (.ow 0))], [(4, (.st (.pair (.int IntKind.i32) (.int IntKind.i32))))], []⟩)]⟩ else none
def refNorm_g : List (Nat × Ctr) := [(27, refSorted_c), (28, refClipped_c)]
theorem refNorm_eq (v : PDen refNorm_c.ps) : semF tbl (gam refNorm_g) refNorm_h fuelN 56 (bodyOf Try.f11) refNorm_c.ps refNorm_c.rs [2] v = refNorm_c.g v := by kernel_rfl

/- 13: trema/rset.Norm -/
def rNorm_s3 (a10 : List (Int × Int)) (a11 : Int) (a12 : Int) (g3 : List (Int × Int)) : Option (((List (Int × Int) × (Int × (Int × Unit))) × (List (Int × Int) × Unit)) ⊕ (Unit × (List (Int × Int) × Unit))) :=
 bif (decide (a12 < a11)) then
 (Option.bind (lk a10 a12) fun x4 =>
 let v5 := (decide ((if (0 : Int) > x4.1 then (0 : Int) else x4.1) ≤ (if (1114111 : Int) < x4.2 then (1114111 : Int) else x4.2)))
 bif v5 then
 bif (roomOk (g3.length + [((if (0 : Int) > x4.1 then (0 : Int) else x4.1), (if (1114111 : Int) < x4.2 then (1114111 : Int) else x4.2))].length) 8) then
 let l6 := (g3 ++ [((if (0 : Int) > x4.1 then (0 : Int) else x4.1), (if (1114111 : Int) < x4.2 then (1114111 : Int) else x4.2))])
 some (.inl ((a10, (a11, ((IntKind.i64.wrap (a12 + (1 : Int))), ()))), (l6, ())))
 else none
 else
 some (.inl ((a10, (a11, ((IntKind.i64.wrap (a12 + (1 : Int))), ()))), (g3, ()))))
 else
 some (.inr ((), (g3, ())))

def rNorm_s11 (a37 : Int) (a38 : Int) (g6 : List (Int × Int)) (g36 : List (Int × Int)) : Option (((Int × (Int × Unit)) × (List (Int × Int) × (List (Int × Int) × Unit))) ⊕ (Unit × (List (Int × Int) × Unit))) :=
 bif (decide (a38 < a37)) then
 (Option.bind (lk g36 a38) fun _x12 =>
 (Option.bind (lk g36 a38) fun x13 =>
 (Option.bind (show Option ((Int × (Int × (Int × (Int × (Bool × Unit))))) × (List (Int × Int) × (List (Int × Int) × (List (Int × Int) × Unit)))) from
 bif (decide ((g6.length : Int) > (0 : Int))) then
 (Option.bind (lk g6 (IntKind.i64.wrap ((g6.length : Int) - (1 : Int)))) fun _x15 =>
 (Option.bind (lk g6 (IntKind.i64.wrap ((g6.length : Int) - (1 : Int)))) fun x16 =>
 some (((0 : Int), ((g6.length : Int), (a37, (a38, ((decide (x13.1 ≤ (IntKind.i32.wrap (x16.2 + (1 : Int))))), ()))))), (g6, ([x13], (g36, ()))))))
 else
 some (((0 : Int), ((g6.length : Int), (a37, (a38, (false, ()))))), (g6, ([x13], (g36, ()))))) fun y17 =>
 bif y17.1.2.2.2.2.1 then
 (Option.bind (lk y17.2.1 (IntKind.i64.wrap (y17.1.2.1 - (1 : Int)))) fun _x18 =>
 (Option.bind (lk y17.2.1 (IntKind.i64.wrap (y17.1.2.1 - (1 : Int)))) fun x19 =>
 (Option.bind (lk y17.2.2.1 y17.1.1) fun x20 =>
 (Option.bind (lk y17.2.1 (IntKind.i64.wrap (y17.1.2.1 - (1 : Int)))) fun _x21 =>
 (Option.bind (lk y17.2.1 (IntKind.i64.wrap (y17.1.2.1 - (1 : Int)))) fun x22 =>
 let l23 := (y17.2.1.set (IntKind.i64.wrap (y17.1.2.1 - (1 : Int))).toNat (x22.1, (if x20.2 > x19.2 then x20.2 else x19.2)))
 some (.inl ((y17.1.2.2.1, ((IntKind.i64.wrap (y17.1.2.2.2.1 + (1 : Int))), ())), (l23, (y17.2.2.2.1, ())))))))))
 else
 (Option.bind (lk y17.2.2.1 y17.1.1) fun x24 =>
 bif (roomOk (y17.2.1.length + [x24].length) 8) then
 some (.inl ((y17.1.2.2.1, ((IntKind.i64.wrap (y17.1.2.2.2.1 + (1 : Int))), ())), ((y17.2.1 ++ [x24]), (y17.2.2.2.1, ()))))
 else none))))
 else
 some (.inr ((), (g6, ())))

def rNorm (p0 : List (Int × Int)) : Option (Unit × (List (Int × Int) × Unit)) :=
 (Option.bind (show Option (Unit × (List (Int × Int) × Unit)) from
 (Option.bind (iterN (fun x => rNorm_s3 x.1.1 x.1.2.1 x.1.2.2.1 x.2.1) fuelN ((p0, ((p0.length : Int), ((0 : Int), ()))), (([] : List (Int × Int)), ()))) fun y7 =>
 some ((), (y7.2.1, ())))) fun y8 =>
 (Option.bind (sortF y8.2.1) fun r9 =>
 (Option.bind (iterN (fun x => rNorm_s11 x.1.1 x.1.2.1 x.2.1 x.2.2.1) fuelN (((r9.1.length : Int), ((0 : Int), ())), (([] : List (Int × Int)), (r9.1, ())))) fun y25 =>
 some ((), (y25.2.1, ())))))


def rNorm_c : Ctr := ⟨[.ro (.slice (.st (.pair (.int IntKind.i32) (.int IntKind.i32))))], [.val (.slice (.st (.pair (.int IntKind.i32) (.int IntKind.i32))))], fun v => rNorm v.1⟩
def rNorm_h : Nat → Option LH := fun i => if i = 12 then some ⟨⟨[(6, (.ow 0)), (36, (.ow 1)), (37, (.int IntKind.i64)), (38, (.int IntKind.i64))], [(6, (.st (.pair (.int IntKind.i32) (.int IntKind.i32)))), (36, (.st (.pair (.int IntKind.i32) (.int IntKind.i32))))], []⟩, [((.exit 2), ⟨[(6, (.ow 0))], [(6, (.st (.pair (.int IntKind.i32) (.int IntKind.i32))))], []⟩)]⟩ else if i = 1150016 then some ⟨⟨[], [], []⟩, [(.normal, ⟨[(6, (.ow 0)), (8, (.oad 1 0)), (9, (.int IntKind.i64)), (36, (.ow 2)), (37, (.int IntKind.i64)), (38, (.int IntKind.i64)), (57, .bool)], [(6, (.st (.pair (.int IntKind.i32) (.int IntKind.i32)))), (8, (.st (.pair (.int IntKind.i32) (.int IntKind.i32)))), (36, (.st (.pair (.int IntKind.i32) (.int IntKind.i32))))], []⟩)]⟩ else if i = 1020009 then some ⟨⟨[], [], []⟩, [(.normal, ⟨[(3, (.ow 0))], [(3, (.st (.pair (.int IntKind.i32) (.int IntKind.i32))))], []⟩)]⟩ else if i = 3 then some ⟨⟨[(3, (.ow 0)), (10, (.slice (.st (.pair (.int IntKind.i32) (.int IntKind.i32))))), (11, (.int IntKind.i64)), (12, (.int IntKind.i64))], [(3, (.st (.pair (.int IntKind.i32) (.int IntKind.i32))))], []⟩, [((.exit 0), ⟨[(3, (.ow 0))], [(3, (.st (.pair (.int IntKind.i32) (.int IntKind.i32))))], []⟩)]⟩ else none
def rNorm_g : List (Nat × Ctr) := [(29, sortF_c)]
theorem rNorm_eq (v : PDen rNorm_c.ps) : semF tbl (gam rNorm_g) rNorm_h fuelN 78 (bodyOf Try.f13) rNorm_c.ps rNorm_c.rs [2] v = rNorm_c.g v := by kernel_rfl

/- 32: slices.Equal[[]trema/api.Range,trema/api.Range] -/
def slEqual_s4 (a0 : List (Int × Int)) (a1 : List (Int × Int)) (a12 : Int) (a13 : Int) : Option (((List (Int × Int) × (List (Int × Int) × (Int × (Int × Unit)))) × Unit) ⊕ (((Bool × Unit) × Unit) ⊕ (Unit × Unit))) :=
 bif (decide (a13 < a12)) then
 (Option.bind (lk a0 a13) fun x5 =>
 (Option.bind (lk a1 a13) fun x6 =>
 bif (!((decide (x5.1 = x6.1) && decide (x5.2 = x6.2)))) then
 some (.inr (.inl ((false, ()), ())))
 else
 some (.inl ((a0, (a1, (a12, ((IntKind.i64.wrap (a13 + (1 : Int))), ())))), ()))))
 else
 some (.inr (.inr ((), ())))

def slEqual (p0 : List (Int × Int)) (p1 : List (Int × Int)) : Option (Unit × (Bool × Unit)) :=
 (Option.bind (show Option (((Bool × Unit) × Unit) ⊕ ((List (Int × Int) × (List (Int × Int) × Unit)) × Unit)) from
 bif ((p0.length : Int) != (p1.length : Int)) then
 some (.inl ((false, ()), ()))
 else
 some (.inr ((p0, (p1, ())), ()))) fun y2 =>
 (match y2 with
 | .inl y2 =>
 some ((), (y2.1.1, ()))
 | .inr y2 =>
 (Option.bind (iterN (fun x => slEqual_s4 x.1.1 x.1.2.1 x.1.2.2.1 x.1.2.2.2.1) fuelN ((y2.1.1, (y2.1.2.1, ((y2.1.1.length : Int), ((0 : Int), ())))), ())) fun y7 =>
 (match y7 with
 | .inl y7 =>
 some ((), (y7.1.1, ()))
 | .inr y7 =>
 some ((), (true, ()))))))


def slEqual_c : Ctr := ⟨[.ro (.slice (.st (.pair (.int IntKind.i32) (.int IntKind.i32)))), .ro (.slice (.st (.pair (.int IntKind.i32) (.int IntKind.i32))))], [.val .bool], fun v => slEqual v.1 v.2.1⟩
def slEqual_h : Nat → Option LH := fun i => if i = 4 then some ⟨⟨[(0, (.slice (.st (.pair (.int IntKind.i32) (.int IntKind.i32))))), (1, (.slice (.st (.pair (.int IntKind.i32) (.int IntKind.i32))))), (12, (.int IntKind.i64)), (13, (.int IntKind.i64))], [], []⟩, [(.ret, ⟨[(4, .bool)], [], []⟩), ((.exit 0), ⟨[], [], []⟩)]⟩ else if i = 1010003 then some ⟨⟨[], [], []⟩, [(.ret, ⟨[(4, .bool)], [], []⟩), (.normal, ⟨[(0, (.slice (.st (.pair (.int IntKind.i32) (.int IntKind.i32))))), (1, (.slice (.st (.pair (.int IntKind.i32) (.int IntKind.i32)))))], [], []⟩)]⟩ else none
def slEqual_g : List (Nat × Ctr) := []
theorem slEqual_eq (v : PDen slEqual_c.ps) : semF tbl (gam slEqual_g) slEqual_h fuelN 26 (bodyOf Try.f32) slEqual_c.ps slEqual_c.rs [4] v = slEqual_c.g v := by kernel_rfl

/- 14: trema/rset.May -/
def rMay (p0 : List (Int × Int)) : Option (Unit × (Bool × Unit)) :=
 (Option.bind (rNorm p0) fun r1 =>
 (Option.bind (slEqual r1.2.1 p0) fun r2 =>
 some ((), (r2.2.1, ()))))


def rMay_c : Ctr := ⟨[.ro (.slice (.st (.pair (.int IntKind.i32) (.int IntKind.i32))))], [.val .bool], fun v => rMay v.1⟩
def rMay_h : Nat → Option LH := fun i => none
def rMay_g : List (Nat × Ctr) := [(13, rNorm_c), (32, slEqual_c)]
theorem rMay_eq (v : PDen rMay_c.ps) : semF tbl (gam rMay_g) rMay_h fuelN 7 (bodyOf Try.f14) rMay_c.ps rMay_c.rs [2] v = rMay_c.g v := by kernel_rfl

/- 15: trema/rset.Count -/
def rCount_s3 (a3 : Int) (a7 : List (Int × Int)) (a8 : Int) (a9 : Int) : Option (((Int × (List (Int × Int) × (Int × (Int × Unit)))) × Unit) ⊕ ((Int × Unit) × Unit)) :=
 bif (decide (a9 < a8)) then
 (Option.bind (lk a7 a9) fun x4 =>
 let v5 := (IntKind.i64.wrap ((IntKind.i64.wrap ((IntKind.i32.wrap (x4.2 - x4.1)))) + (1 : Int)))
 some (.inl (((IntKind.i64.wrap (a3 + v5)), (a7, (a8, ((IntKind.i64.wrap (a9 + (1 : Int))), ())))), ())))
 else
 some (.inr ((a3, ()), ()))

def rCount (p0 : List (Int × Int)) : Option (Unit × (Int × Unit)) :=
 (Option.bind (rNorm p0) fun r1 =>
 (Option.bind (iterN (fun x => rCount_s3 x.1.1 x.1.2.1 x.1.2.2.1 x.1.2.2.2.1) fuelN (((0 : Int), (r1.2.1, ((r1.2.1.length : Int), ((0 : Int), ())))), ())) fun y6 =>
 some ((), (y6.1.1, ()))))


def rCount_c : Ctr := ⟨[.ro (.slice (.st (.pair (.int IntKind.i32) (.int IntKind.i32))))], [.val (.int IntKind.i64)], fun v => rCount v.1⟩
def rCount_h : Nat → Option LH := fun i => if i = 3 then some ⟨⟨[(3, (.int IntKind.i64)), (7, (.slice (.st (.pair (.int IntKind.i32) (.int IntKind.i32))))), (8, (.int IntKind.i64)), (9, (.int IntKind.i64))], [], []⟩, [((.exit 0), ⟨[(3, (.int IntKind.i64))], [], []⟩)]⟩ else none
def rCount_g : List (Nat × Ctr) := [(13, rNorm_c)]
theorem rCount_eq (v : PDen rCount_c.ps) : semF tbl (gam rCount_g) rCount_h fuelN 24 (bodyOf Try.f15) rCount_c.ps rCount_c.rs [2] v = rCount_c.g v := by kernel_rfl

/- 16: trema/rset.Equal -/
def rEqual (p0 : List (Int × Int)) (p1 : List (Int × Int)) : Option (Unit × (Bool × Unit)) :=
 (Option.bind (rNorm p0) fun r1 =>
 (Option.bind (rNorm p1) fun r2 =>
 (Option.bind (slEqual r1.2.1 r2.2.1) fun r3 =>
 some ((), (r3.2.1, ())))))


def rEqual_c : Ctr := ⟨[.ro (.slice (.st (.pair (.int IntKind.i32) (.int IntKind.i32)))), .ro (.slice (.st (.pair (.int IntKind.i32) (.int IntKind.i32))))], [.val .bool], fun v => rEqual v.1 v.2.1⟩
def rEqual_h : Nat → Option LH := fun i => none
def rEqual_g : List (Nat × Ctr) := [(13, rNorm_c), (32, slEqual_c)]
theorem rEqual_eq (v : PDen rEqual_c.ps) : semF tbl (gam rEqual_g) rEqual_h fuelN 10 (bodyOf Try.f16) rEqual_c.ps rEqual_c.rs [4] v = rEqual_c.g v := by kernel_rfl

/- 33: trema/rset.Union$1 -/
def uF (p0 : Bool) (p1 : Bool) : Option (Unit × (Bool × Unit)) :=
 bif p0 then
 some ((), (true, ()))
 else
 some ((), (p1, ()))


def uF_c : Ctr := ⟨[.ro .bool, .ro .bool], [.val .bool], fun v => uF v.1 v.2.1⟩
def uF_h : Nat → Option LH := fun i => none
def uF_g : List (Nat × Ctr) := []
theorem uF_eq (v : PDen uF_c.ps) : semF tbl (gam uF_g) uF_h fuelN 9 (bodyOf Try.f33) uF_c.ps uF_c.rs [4] v = uF_c.g v := by kernel_rfl

/- 35: trema/rset.Meet$1 -/
def mF (p0 : Bool) (p1 : Bool) : Option (Unit × (Bool × Unit)) :=
 bif p0 then
 some ((), (p1, ()))
 else
 some ((), (false, ()))


def mF_c : Ctr := ⟨[.ro .bool, .ro .bool], [.val .bool], fun v => mF v.1 v.2.1⟩
def mF_h : Nat → Option LH := fun i => none
def mF_g : List (Nat × Ctr) := []
theorem mF_eq (v : PDen mF_c.ps) : semF tbl (gam mF_g) mF_h fuelN 9 (bodyOf Try.f35) mF_c.ps mF_c.rs [4] v = mF_c.g v := by kernel_rfl

/- 36: trema/rset.Minus$1 -/
def dF (p0 : Bool) (p1 : Bool) : Option (Unit × (Bool × Unit)) :=
 bif p0 then
 some ((), ((!p1), ()))
 else
 some ((), (false, ()))


def dF_c : Ctr := ⟨[.ro .bool, .ro .bool], [.val .bool], fun v => dF v.1 v.2.1⟩
def dF_h : Nat → Option LH := fun i => none
def dF_g : List (Nat × Ctr) := []
theorem dF_eq (v : PDen dF_c.ps) : semF tbl (gam dF_g) dF_h fuelN 10 (bodyOf Try.f36) dF_c.ps dF_c.rs [4] v = dF_c.g v := by kernel_rfl

/- 37: trema/rset.Not$1 -/
def nF (p0 : Bool) (p1 : Bool) : Option (Unit × (Bool × Unit)) :=
 some ((), ((!p0), ()))


def nF_c : Ctr := ⟨[.ro .bool, .ro .bool], [.val .bool], fun v => nF v.1 v.2.1⟩
def nF_h : Nat → Option LH := fun i => none
def nF_g : List (Nat × Ctr) := []
theorem nF_eq (v : PDen nF_c.ps) : semF tbl (gam nF_g) nF_h fuelN 7 (bodyOf Try.f37) nF_c.ps nF_c.rs [4] v = nF_c.g v := by kernel_rfl

/- 57: slices.Grow[[]trema/api.Range,trema/api.Range] -/
def grow (p1 : Int) : Option (Unit × (List (Int × Int) × Unit)) :=
 (Option.bind (show Option ((Unit × (Int × Unit)) × Unit) from
 bif (decide (p1 < (0 : Int))) then
 none
 else
 some (((), (p1, ())), ())) fun y2 =>
 let v3 := (IntKind.i64.wrap (y2.1.2.1 - (IntKind.i64.wrap ((0 : Int) - (0 : Int)))))
 bif (decide (v3 > (0 : Int))) then
 bif (inB (0 : Int) (0 : Int) 0) then
 bif (decide (0 ≤ v3) && roomOk (Int.toNat v3) 8) then
 bif (inB (0 : Int) (0 : Int) (List.replicate (Int.toNat v3) ((0 : Int), (0 : Int))).length) then
 some ((), (((((List.replicate (Int.toNat v3) ((0 : Int), (0 : Int)))).drop (0 : Int).toNat).take ((0 : Int) - (0 : Int)).toNat), ()))
 else none
 else none
 else none
 else
 some ((), (([] : List (Int × Int)), ())))


def grow_c : Ctr := ⟨[.ro .nils, .ro (.int IntKind.i64)], [.own (.st (.pair (.int IntKind.i32) (.int IntKind.i32)))], fun v => grow v.2.1⟩
def grow_h : Nat → Option LH := fun i => if i = 1010003 then some ⟨⟨[], [], []⟩, [(.normal, ⟨[(0, .nils), (1, (.int IntKind.i64))], [], []⟩)]⟩ else none
def grow_g : List (Nat × Ctr) := []
theorem grow_eq (v : PDen grow_c.ps) : semF tbl (gam grow_g) grow_h fuelN 27 (bodyOf Try.f57) grow_c.ps grow_c.rs [4] v = grow_c.g v := by kernel_rfl

/- 43: slices.Concat[[]trema/api.Range,trema/api.Range] -/
def concat_s3 (a0 : List (List (Int × Int))) (a3 : Int) (a9 : List (List (Int × Int))) (a10 : Int) (a11 : Int) : Option (((List (List (Int × Int)) × (Int × (List (List (Int × Int)) × (Int × (Int × Unit))))) × Unit) ⊕ ((List (List (Int × Int)) × (Int × Unit)) × Unit)) :=
 bif (decide (a11 < a10)) then
 (Option.bind (lk a9 a11) fun x4 =>
 let v5 := (decide ((IntKind.i64.wrap (a3 + (x4.length : Int))) < (0 : Int)))
 bif v5 then
 none
 else
 some (.inl ((a0, ((IntKind.i64.wrap (a3 + (x4.length : Int))), (a9, (a10, ((IntKind.i64.wrap (a11 + (1 : Int))), ()))))), ())))
 else
 some (.inr ((a0, (a3, ())), ()))

def concat_s10 (a25 : List (List (Int × Int))) (a26 : Int) (a27 : Int) (g6 : List (Int × Int)) : Option (((List (List (Int × Int)) × (Int × (Int × Unit))) × (List (Int × Int) × Unit)) ⊕ (Unit × (List (Int × Int) × Unit))) :=
 bif (decide (a27 < a26)) then
 (Option.bind (lk a25 a27) fun x11 =>
 bif (roomOk (g6.length + x11.length) 8) then
 some (.inl ((a25, (a26, ((IntKind.i64.wrap (a27 + (1 : Int))), ()))), ((g6 ++ x11), ())))
 else none)
 else
 some (.inr ((), (g6, ())))

def concat (p0 : List (List (Int × Int))) : Option (Unit × (List (Int × Int) × Unit)) :=
 (Option.bind (show Option ((List (List (Int × Int)) × (Int × Unit)) × Unit) from
 (Option.bind (iterN (fun x => concat_s3 x.1.1 x.1.2.1 x.1.2.2.1 x.1.2.2.2.1 x.1.2.2.2.2.1) fuelN ((p0, ((0 : Int), (p0, ((p0.length : Int), ((0 : Int), ()))))), ())) fun y6 =>
 some ((y6.1.1, (y6.1.2.1, ())), ()))) fun y7 =>
 (Option.bind (grow y7.1.2.1) fun r8 =>
 (Option.bind (iterN (fun x => concat_s10 x.1.1 x.1.2.1 x.1.2.2.1 x.2.1) fuelN ((y7.1.1, ((y7.1.1.length : Int), ((0 : Int), ()))), (r8.2.1, ()))) fun y12 =>
 some ((), (y12.2.1, ())))))


def concat_c : Ctr := ⟨[.ro (.slice (.slice (.st (.pair (.int IntKind.i32) (.int IntKind.i32)))))], [.val (.slice (.st (.pair (.int IntKind.i32) (.int IntKind.i32))))], fun v => concat v.1⟩
def concat_h : Nat → Option LH := fun i => if i = 11 then some ⟨⟨[(6, (.ow 0)), (25, (.slice (.slice (.st (.pair (.int IntKind.i32) (.int IntKind.i32)))))), (26, (.int IntKind.i64)), (27, (.int IntKind.i64))], [(6, (.st (.pair (.int IntKind.i32) (.int IntKind.i32))))], []⟩, [((.exit 2), ⟨[(6, (.ow 0))], [(6, (.st (.pair (.int IntKind.i32) (.int IntKind.i32))))], []⟩)]⟩ else if i = 1020009 then some ⟨⟨[], [], []⟩, [(.normal, ⟨[(0, (.slice (.slice (.st (.pair (.int IntKind.i32) (.int IntKind.i32)))))), (3, (.int IntKind.i64))], [], []⟩)]⟩ else if i = 3 then some ⟨⟨[(0, (.slice (.slice (.st (.pair (.int IntKind.i32) (.int IntKind.i32)))))), (3, (.int IntKind.i64)), (9, (.slice (.slice (.st (.pair (.int IntKind.i32) (.int IntKind.i32)))))), (10, (.int IntKind.i64)), (11, (.int IntKind.i64))], [], []⟩, [((.exit 0), ⟨[(0, (.slice (.slice (.st (.pair (.int IntKind.i32) (.int IntKind.i32)))))), (3, (.int IntKind.i64))], [], []⟩)]⟩ else none
def concat_g : List (Nat × Ctr) := [(57, grow_c)]
theorem concat_eq (v : PDen concat_c.ps) : semF tbl (gam concat_g) concat_h fuelN 36 (bodyOf Try.f43) concat_c.ps concat_c.rs [2] v = concat_c.g v := by kernel_rfl

/- 34: (trema/rset.sweep).run -/
def runU_s6 (a1 : List (Int × Int)) (a2 : List (Int × Int)) (a3 : Int) (a21 : List (Int × Int)) (a22 : Int) (a23 : Int) (g3 : List Unit) (g7 : List Int) : Option (((List (Int × Int) × (List (Int × Int) × (Int × (List (Int × Int) × (Int × (Int × Unit)))))) × (List Unit × (List Int × Unit))) ⊕ ((List (Int × Int) × (List (Int × Int) × (Int × Unit))) × (List Unit × (List Int × Unit)))) :=
 bif (decide (a23 < a22)) then
 (Option.bind (lk a21 a23) fun x7 =>
 bif (roomOk (g7.length + [x7.1, (IntKind.i32.wrap (x7.2 + (1 : Int)))].length) 4) then
 some (.inl ((a1, (a2, (a3, (a21, (a22, ((IntKind.i64.wrap (a23 + (1 : Int))), ())))))), (g3, ((g7 ++ [x7.1, (IntKind.i32.wrap (x7.2 + (1 : Int)))]), ()))))
 else none)
 else
 some (.inr ((a1, (a2, (a3, ()))), (g3, (g7, ()))))

def runU_s19 (a1 : List (Int × Int)) (a2 : List (Int × Int)) (a3 : Int) (a11 : Int) (a12 : Int) (a44 : (Nat × Nat)) (a45 : Int) (a46 : Int) (g3 : List Unit) (g7 : List Int) (g10 : List (Int × Int)) : Option (((List (Int × Int) × (List (Int × Int) × (Int × (Int × (Int × ((Nat × Nat) × (Int × (Int × Unit)))))))) × (List Unit × (List Int × (List (Int × Int) × Unit)))) ⊕ ((List (Int × Int) × (List (Int × Int) × (Int × (Int × (Int × ((Nat × Nat) × (Int × (Int × Unit)))))))) × (List Unit × (List Int × (List (Int × Int) × Unit))))) :=
 (Option.bind (show Option (((List (Int × Int) × (List (Int × Int) × (Int × (Int × (Int × ((Nat × Nat) × (Int × (Int × Unit)))))))) × (List Unit × (List Int × (List (Int × Int) × Unit)))) ⊕ ((List (Int × Int) × (List (Int × Int) × (Int × (Int × (Int × ((Nat × Nat) × (Int × (Int × Unit)))))))) × (List Unit × (List Int × (List (Int × Int) × Unit))))) from
 bif (decide ((a1.length : Int) > (0 : Int))) then
 (Option.bind (lk a1 (0 : Int)) fun x21 =>
 bif (decide (x21.2 < a12)) then
 some (.inl ((a1, (a2, (a3, (a11, (a12, (a44, (a45, (a46, ())))))))), (g3, (g7, (g10, ())))))
 else
 some (.inr ((a1, (a2, (a3, (a11, (a12, (a44, (a45, (a46, ())))))))), (g3, (g7, (g10, ()))))))
 else
 some (.inr ((a1, (a2, (a3, (a11, (a12, (a44, (a45, (a46, ())))))))), (g3, (g7, (g10, ())))))) fun y22 =>
 (match y22 with
 | .inl y22 =>
 bif (inB (1 : Int) (y22.1.1.length : Int) y22.1.1.length) then
 some (.inl (((cut y22.1.1 (1 : Int) (y22.1.1.length : Int)), (y22.1.2.1, (y22.1.2.2.1, (y22.1.2.2.2.1, (y22.1.2.2.2.2.1, (y22.1.2.2.2.2.2.1, (y22.1.2.2.2.2.2.2.1, (y22.1.2.2.2.2.2.2.2.1, ())))))))), (y22.2.1, (y22.2.2.1, (y22.2.2.2.1, ())))))
 else none
 | .inr y22 =>
 some (.inr ((y22.1.1, (y22.1.2.1, (y22.1.2.2.1, (y22.1.2.2.2.1, (y22.1.2.2.2.2.1, (y22.1.2.2.2.2.2.1, (y22.1.2.2.2.2.2.2.1, (y22.1.2.2.2.2.2.2.2.1, ())))))))), (y22.2.1, (y22.2.2.1, (y22.2.2.2.1, ())))))))

def runU_s27 (a1 : List (Int × Int)) (a2 : List (Int × Int)) (a3 : Int) (a11 : Int) (a12 : Int) (a44 : (Nat × Nat)) (a45 : Int) (a46 : Int) (g3 : List Unit) (g7 : List Int) (g10 : List (Int × Int)) : Option (((List (Int × Int) × (List (Int × Int) × (Int × (Int × (Int × ((Nat × Nat) × (Int × (Int × Unit)))))))) × (List Unit × (List Int × (List (Int × Int) × Unit)))) ⊕ ((List (Int × Int) × (List (Int × Int) × (Int × (Int × (Int × ((Nat × Nat) × (Int × (Int × Unit)))))))) × (List Unit × (List Int × (List (Int × Int) × Unit))))) :=
 (Option.bind (show Option (((List (Int × Int) × (List (Int × Int) × (Int × (Int × (Int × ((Nat × Nat) × (Int × (Int × Unit)))))))) × (List Unit × (List Int × (List (Int × Int) × Unit)))) ⊕ ((List (Int × Int) × (List (Int × Int) × (Int × (Int × (Int × ((Nat × Nat) × (Int × (Int × Unit)))))))) × (List Unit × (List Int × (List (Int × Int) × Unit))))) from
 bif (decide ((a2.length : Int) > (0 : Int))) then
 (Option.bind (lk a2 (0 : Int)) fun x29 =>
 bif (decide (x29.2 < a12)) then
 some (.inl ((a1, (a2, (a3, (a11, (a12, (a44, (a45, (a46, ())))))))), (g3, (g7, (g10, ())))))
 else
 some (.inr ((a1, (a2, (a3, (a11, (a12, (a44, (a45, (a46, ())))))))), (g3, (g7, (g10, ()))))))
 else
 some (.inr ((a1, (a2, (a3, (a11, (a12, (a44, (a45, (a46, ())))))))), (g3, (g7, (g10, ())))))) fun y30 =>
 (match y30 with
 | .inl y30 =>
 bif (inB (1 : Int) (y30.1.2.1.length : Int) y30.1.2.1.length) then
 some (.inl ((y30.1.1, ((cut y30.1.2.1 (1 : Int) (y30.1.2.1.length : Int)), (y30.1.2.2.1, (y30.1.2.2.2.1, (y30.1.2.2.2.2.1, (y30.1.2.2.2.2.2.1, (y30.1.2.2.2.2.2.2.1, (y30.1.2.2.2.2.2.2.2.1, ())))))))), (y30.2.1, (y30.2.2.1, (y30.2.2.2.1, ())))))
 else none
 | .inr y30 =>
 some (.inr ((y30.1.1, (y30.1.2.1, (y30.1.2.2.1, (y30.1.2.2.2.1, (y30.1.2.2.2.2.1, (y30.1.2.2.2.2.2.1, (y30.1.2.2.2.2.2.2.1, (y30.1.2.2.2.2.2.2.2.1, ())))))))), (y30.2.1, (y30.2.2.1, (y30.2.2.2.1, ())))))))

def runU_s15 (a1 : List (Int × Int)) (a2 : List (Int × Int)) (a3 : Int) (a44 : (Nat × Nat)) (a45 : Int) (a46 : Int) (g3 : List Unit) (g7 : List Int) (g10 : List (Int × Int)) : Option (((List (Int × Int) × (List (Int × Int) × (Int × ((Nat × Nat) × (Int × (Int × Unit)))))) × (List Unit × (List Int × (List (Int × Int) × Unit)))) ⊕ (Unit × (List (Int × Int) × Unit))) :=
 bif (decide (a46 < a45)) then
 bif (inR a46 a44.2) then
 (Option.bind (lk g7 (plusI a44.1 a46)) fun x16 =>
 (Option.bind (show Option ((List (Int × Int) × (List (Int × Int) × (Int × (Int × (Int × ((Nat × Nat) × (Int × (Int × Unit)))))))) × (List Unit × (List Int × (List (Int × Int) × Unit)))) from
 (Option.bind (iterN (fun x => runU_s19 x.1.1 x.1.2.1 x.1.2.2.1 x.1.2.2.2.1 x.1.2.2.2.2.1 x.1.2.2.2.2.2.1 x.1.2.2.2.2.2.2.1 x.1.2.2.2.2.2.2.2.1 x.2.1 x.2.2.1 x.2.2.2.1) fuelN ((a1, (a2, (a3, (a46, (x16, (a44, (a45, (a46, ())))))))), (g3, (g7, (g10, ()))))) fun y23 =>
 some ((y23.1.1, (y23.1.2.1, (y23.1.2.2.1, (y23.1.2.2.2.1, (y23.1.2.2.2.2.1, (y23.1.2.2.2.2.2.1, (y23.1.2.2.2.2.2.2.1, (y23.1.2.2.2.2.2.2.2.1, ())))))))), (y23.2.1, (y23.2.2.1, (y23.2.2.2.1, ())))))) fun y24 =>
 (Option.bind (show Option ((List (Int × Int) × (List (Int × Int) × (Int × (Int × (Int × ((Nat × Nat) × (Int × (Int × Unit)))))))) × (List Unit × (List Int × (List (Int × Int) × Unit)))) from
 (Option.bind (iterN (fun x => runU_s27 x.1.1 x.1.2.1 x.1.2.2.1 x.1.2.2.2.1 x.1.2.2.2.2.1 x.1.2.2.2.2.2.1 x.1.2.2.2.2.2.2.1 x.1.2.2.2.2.2.2.2.1 x.2.1 x.2.2.1 x.2.2.2.1) fuelN ((y24.1.1, (y24.1.2.1, (y24.1.2.2.1, (y24.1.2.2.2.1, (y24.1.2.2.2.2.1, (y24.1.2.2.2.2.2.1, (y24.1.2.2.2.2.2.2.1, (y24.1.2.2.2.2.2.2.2.1, ())))))))), (y24.2.1, (y24.2.2.1, (y24.2.2.2.1, ()))))) fun y31 =>
 some ((y31.1.1, (y31.1.2.1, (y31.1.2.2.1, (y31.1.2.2.2.1, (y31.1.2.2.2.2.1, (y31.1.2.2.2.2.2.1, (y31.1.2.2.2.2.2.2.1, (y31.1.2.2.2.2.2.2.2.1, ())))))))), (y31.2.1, (y31.2.2.1, (y31.2.2.2.1, ())))))) fun y32 =>
 (Option.bind (show Option ((List (Int × Int) × (List (Int × Int) × (Int × (Int × (Int × ((Nat × Nat) × (Int × (Int × (Bool × Unit))))))))) × (List Unit × (List Int × (List (Int × Int) × Unit)))) from
 (Option.bind (lk y32.2.1 y32.1.2.2.1) fun x34 =>
 bif (decide ((y32.1.1.length : Int) > (0 : Int))) then
 (Option.bind (lk y32.1.1 (0 : Int)) fun x35 =>
 bif (decide ((y32.1.2.1.length : Int) > (0 : Int))) then
 (Option.bind (lk y32.1.2.1 (0 : Int)) fun x36 =>
 (Option.bind (uF (decide (x35.1 ≤ y32.1.2.2.2.2.1)) (decide (x36.1 ≤ y32.1.2.2.2.2.1))) fun r37 =>
 some ((y32.1.1, (y32.1.2.1, (y32.1.2.2.1, (y32.1.2.2.2.1, (y32.1.2.2.2.2.1, (y32.1.2.2.2.2.2.1, (y32.1.2.2.2.2.2.2.1, (y32.1.2.2.2.2.2.2.2.1, (r37.2.1, ()))))))))), (y32.2.1, (y32.2.2.1, (y32.2.2.2.1, ()))))))
 else
 (Option.bind (uF (decide (x35.1 ≤ y32.1.2.2.2.2.1)) false) fun r38 =>
 some ((y32.1.1, (y32.1.2.1, (y32.1.2.2.1, (y32.1.2.2.2.1, (y32.1.2.2.2.2.1, (y32.1.2.2.2.2.2.1, (y32.1.2.2.2.2.2.2.1, (y32.1.2.2.2.2.2.2.2.1, (r38.2.1, ()))))))))), (y32.2.1, (y32.2.2.1, (y32.2.2.2.1, ()))))))
 else
 bif (decide ((y32.1.2.1.length : Int) > (0 : Int))) then
 (Option.bind (lk y32.1.2.1 (0 : Int)) fun x39 =>
 (Option.bind (uF false (decide (x39.1 ≤ y32.1.2.2.2.2.1))) fun r40 =>
 some ((y32.1.1, (y32.1.2.1, (y32.1.2.2.1, (y32.1.2.2.2.1, (y32.1.2.2.2.2.1, (y32.1.2.2.2.2.2.1, (y32.1.2.2.2.2.2.2.1, (y32.1.2.2.2.2.2.2.2.1, (r40.2.1, ()))))))))), (y32.2.1, (y32.2.2.1, (y32.2.2.2.1, ()))))))
 else
 (Option.bind (uF false false) fun r41 =>
 some ((y32.1.1, (y32.1.2.1, (y32.1.2.2.1, (y32.1.2.2.2.1, (y32.1.2.2.2.2.1, (y32.1.2.2.2.2.2.1, (y32.1.2.2.2.2.2.2.1, (y32.1.2.2.2.2.2.2.2.1, (r41.2.1, ()))))))))), (y32.2.1, (y32.2.2.1, (y32.2.2.2.1, ()))))))) fun y42 =>
 bif y42.1.2.2.2.2.2.2.2.2.1 then
 (Option.bind (lk y42.2.2.1 (IntKind.i64.wrap (y42.1.2.2.2.1 + (1 : Int)))) fun _x43 =>
 (Option.bind (lk y42.2.2.1 (IntKind.i64.wrap (y42.1.2.2.2.1 + (1 : Int)))) fun x44 =>
 bif (roomOk (y42.2.2.2.1.length + [(y42.1.2.2.2.2.1, (IntKind.i32.wrap (x44 - (1 : Int))))].length) 8) then
 let l45 := (y42.2.2.2.1 ++ [(y42.1.2.2.2.2.1, (IntKind.i32.wrap (x44 - (1 : Int))))])
 some (.inl ((y42.1.1, (y42.1.2.1, (y42.1.2.2.1, (y42.1.2.2.2.2.2.1, (y42.1.2.2.2.2.2.2.1, ((IntKind.i64.wrap (y42.1.2.2.2.2.2.2.2.1 + (1 : Int))), ())))))), (y42.2.1, (y42.2.2.1, (l45, ())))))
 else none))
 else
 some (.inl ((y42.1.1, (y42.1.2.1, (y42.1.2.2.1, (y42.1.2.2.2.2.2.1, (y42.1.2.2.2.2.2.2.1, ((IntKind.i64.wrap (y42.1.2.2.2.2.2.2.2.1 + (1 : Int))), ())))))), (y42.2.1, (y42.2.2.1, (y42.2.2.2.1, ())))))))))
 else none
 else
 some (.inr ((), (g10, ())))

def runU (p1 : List (Int × Int)) (p2 : List (Int × Int)) : Option (Unit × (List (Int × Int) × Unit)) :=
 (Option.bind (rNorm p1) fun r1 =>
 (Option.bind (rNorm p2) fun r2 =>
 (Option.bind (show Option ((List (Int × Int) × (List (Int × Int) × (Int × Unit))) × (List Unit × (List Int × Unit))) from
 (Option.bind (concat [r1.2.1, r2.2.1]) fun r4 =>
 (Option.bind (iterN (fun x => runU_s6 x.1.1 x.1.2.1 x.1.2.2.1 x.1.2.2.2.1 x.1.2.2.2.2.1 x.1.2.2.2.2.2.1 x.2.1 x.2.2.1) fuelN ((r1.2.1, (r2.2.1, ((0 : Int), (r4.2.1, ((r4.2.1.length : Int), ((0 : Int), ())))))), ([()], ([(0 : Int), (1114112 : Int)], ())))) fun y8 =>
 some ((y8.1.1, (y8.1.2.1, (y8.1.2.2.1, ()))), (y8.2.1, (y8.2.2.1, ())))))) fun y9 =>
 (Option.bind (sortI y9.2.2.1) fun r10 =>
 (Option.bind (compactI r10.1) fun r11 =>
 (Option.bind (show Option (Unit × (List (Int × Int) × Unit)) from
 bif (inB (0 : Int) (IntKind.i64.wrap ((r11.2.1.length : Int) - (1 : Int))) r11.2.1.length) then
 let v13 := ((IntKind.i64.wrap ((r11.2.1.length : Int) - (1 : Int))) - (0 : Int)).toNat
 (Option.bind (iterN (fun x => runU_s15 x.1.1 x.1.2.1 x.1.2.2.1 x.1.2.2.2.1 x.1.2.2.2.2.1 x.1.2.2.2.2.2.1 x.2.1 x.2.2.1 x.2.2.2.1) fuelN ((y9.1.1, (y9.1.2.1, (y9.1.2.2.1, (((0 : Int).toNat, v13), ((v13 : Int), ((0 : Int), ())))))), (y9.2.1, (r11.2.1, (([] : List (Int × Int)), ()))))) fun y46 =>
 some ((), (y46.2.1, ())))
 else none) fun y47 =>
 (Option.bind (rNorm y47.2.1) fun r48 =>
 some ((), (r48.2.1, ())))))))))


def runU_c : Ctr := ⟨[.ro (.st (.clo 33 .unit)), .ro (.slice (.st (.pair (.int IntKind.i32) (.int IntKind.i32)))), .ro (.slice (.st (.pair (.int IntKind.i32) (.int IntKind.i32))))], [.val (.slice (.st (.pair (.int IntKind.i32) (.int IntKind.i32))))], fun v => runU v.2.1 v.2.2.1⟩
def runU_h : Nat → Option LH := fun i => if i = 1110021 then some ⟨⟨[], [], []⟩, [(.normal, ⟨[(10, (.ow 0))], [(10, (.st (.pair (.int IntKind.i32) (.int IntKind.i32))))], []⟩)]⟩ else if i = 12 then some ⟨⟨[(1, (.slice (.st (.pair (.int IntKind.i32) (.int IntKind.i32))))), (2, (.slice (.st (.pair (.int IntKind.i32) (.int IntKind.i32))))), (3, (.oad 0 0)), (7, (.ow 1)), (10, (.ow 2)), (44, (.osl 1)), (45, (.int IntKind.i64)), (46, (.int IntKind.i64))], [(3, (.st (.clo 33 .unit))), (7, (.int IntKind.i32)), (10, (.st (.pair (.int IntKind.i32) (.int IntKind.i32))))], []⟩, [((.exit 2), ⟨[(10, (.ow 0))], [(10, (.st (.pair (.int IntKind.i32) (.int IntKind.i32))))], []⟩)]⟩ else if i = 1180019 then some ⟨⟨[], [], []⟩, [(.normal, ⟨[(1, (.slice (.st (.pair (.int IntKind.i32) (.int IntKind.i32))))), (2, (.slice (.st (.pair (.int IntKind.i32) (.int IntKind.i32))))), (3, (.oad 0 0)), (7, (.ow 1)), (10, (.ow 2)), (11, (.int IntKind.i64)), (12, (.int IntKind.i32)), (44, (.osl 1)), (45, (.int IntKind.i64)), (46, (.int IntKind.i64)), (101, .bool)], [(3, (.st (.clo 33 .unit))), (7, (.int IntKind.i32)), (10, (.st (.pair (.int IntKind.i32) (.int IntKind.i32))))], []⟩)]⟩ else if i = 1160018 then some ⟨⟨[], [], []⟩, [(.normal, ⟨[(1, (.slice (.st (.pair (.int IntKind.i32) (.int IntKind.i32))))), (2, (.slice (.st (.pair (.int IntKind.i32) (.int IntKind.i32))))), (3, (.oad 0 0)), (7, (.ow 1)), (10, (.ow 2)), (11, (.int IntKind.i64)), (12, (.int IntKind.i32)), (44, (.osl 1)), (45, (.int IntKind.i64)), (46, (.int IntKind.i64))], [(3, (.st (.clo 33 .unit))), (7, (.int IntKind.i32)), (10, (.st (.pair (.int IntKind.i32) (.int IntKind.i32))))], []⟩)]⟩ else if i = 16 then some ⟨⟨[(1, (.slice (.st (.pair (.int IntKind.i32) (.int IntKind.i32))))), (2, (.slice (.st (.pair (.int IntKind.i32) (.int IntKind.i32))))), (3, (.oad 0 0)), (7, (.ow 1)), (10, (.ow 2)), (11, (.int IntKind.i64)), (12, (.int IntKind.i32)), (44, (.osl 1)), (45, (.int IntKind.i64)), (46, (.int IntKind.i64))], [(3, (.st (.clo 33 .unit))), (7, (.int IntKind.i32)), (10, (.st (.pair (.int IntKind.i32) (.int IntKind.i32))))], []⟩, [((.exit 6), ⟨[(1, (.slice (.st (.pair (.int IntKind.i32) (.int IntKind.i32))))), (2, (.slice (.st (.pair (.int IntKind.i32) (.int IntKind.i32))))), (3, (.oad 0 0)), (7, (.ow 1)), (10, (.ow 2)), (11, (.int IntKind.i64)), (12, (.int IntKind.i32)), (44, (.osl 1)), (45, (.int IntKind.i64)), (46, (.int IntKind.i64))], [(3, (.st (.clo 33 .unit))), (7, (.int IntKind.i32)), (10, (.st (.pair (.int IntKind.i32) (.int IntKind.i32))))], []⟩)]⟩ else if i = 1160017 then some ⟨⟨[], [], []⟩, [(.normal, ⟨[(1, (.slice (.st (.pair (.int IntKind.i32) (.int IntKind.i32))))), (2, (.slice (.st (.pair (.int IntKind.i32) (.int IntKind.i32))))), (3, (.oad 0 0)), (7, (.ow 1)), (10, (.ow 2)), (11, (.int IntKind.i64)), (12, (.int IntKind.i32)), (44, (.osl 1)), (45, (.int IntKind.i64)), (46, (.int IntKind.i64))], [(3, (.st (.clo 33 .unit))), (7, (.int IntKind.i32)), (10, (.st (.pair (.int IntKind.i32) (.int IntKind.i32))))], []⟩), ((.exit 6), ⟨[(1, (.slice (.st (.pair (.int IntKind.i32) (.int IntKind.i32))))), (2, (.slice (.st (.pair (.int IntKind.i32) (.int IntKind.i32))))), (3, (.oad 0 0)), (7, (.ow 1)), (10, (.ow 2)), (11, (.int IntKind.i64)), (12, (.int IntKind.i32)), (44, (.osl 1)), (45, (.int IntKind.i64)), (46, (.int IntKind.i64))], [(3, (.st (.clo 33 .unit))), (7, (.int IntKind.i32)), (10, (.st (.pair (.int IntKind.i32) (.int IntKind.i32))))], []⟩)]⟩ else if i = 1140016 then some ⟨⟨[], [], []⟩, [(.normal, ⟨[(1, (.slice (.st (.pair (.int IntKind.i32) (.int IntKind.i32))))), (2, (.slice (.st (.pair (.int IntKind.i32) (.int IntKind.i32))))), (3, (.oad 0 0)), (7, (.ow 1)), (10, (.ow 2)), (11, (.int IntKind.i64)), (12, (.int IntKind.i32)), (44, (.osl 1)), (45, (.int IntKind.i64)), (46, (.int IntKind.i64))], [(3, (.st (.clo 33 .unit))), (7, (.int IntKind.i32)), (10, (.st (.pair (.int IntKind.i32) (.int IntKind.i32))))], []⟩)]⟩ else if i = 14 then some ⟨⟨[(1, (.slice (.st (.pair (.int IntKind.i32) (.int IntKind.i32))))), (2, (.slice (.st (.pair (.int IntKind.i32) (.int IntKind.i32))))), (3, (.oad 0 0)), (7, (.ow 1)), (10, (.ow 2)), (11, (.int IntKind.i64)), (12, (.int IntKind.i32)), (44, (.osl 1)), (45, (.int IntKind.i64)), (46, (.int IntKind.i64))], [(3, (.st (.clo 33 .unit))), (7, (.int IntKind.i32)), (10, (.st (.pair (.int IntKind.i32) (.int IntKind.i32))))], []⟩, [((.exit 4), ⟨[(1, (.slice (.st (.pair (.int IntKind.i32) (.int IntKind.i32))))), (2, (.slice (.st (.pair (.int IntKind.i32) (.int IntKind.i32))))), (3, (.oad 0 0)), (7, (.ow 1)), (10, (.ow 2)), (11, (.int IntKind.i64)), (12, (.int IntKind.i32)), (44, (.osl 1)), (45, (.int IntKind.i64)), (46, (.int IntKind.i64))], [(3, (.st (.clo 33 .unit))), (7, (.int IntKind.i32)), (10, (.st (.pair (.int IntKind.i32) (.int IntKind.i32))))], []⟩)]⟩ else if i = 1140015 then some ⟨⟨[], [], []⟩, [(.normal, ⟨[(1, (.slice (.st (.pair (.int IntKind.i32) (.int IntKind.i32))))), (2, (.slice (.st (.pair (.int IntKind.i32) (.int IntKind.i32))))), (3, (.oad 0 0)), (7, (.ow 1)), (10, (.ow 2)), (11, (.int IntKind.i64)), (12, (.int IntKind.i32)), (44, (.osl 1)), (45, (.int IntKind.i64)), (46, (.int IntKind.i64))], [(3, (.st (.clo 33 .unit))), (7, (.int IntKind.i32)), (10, (.st (.pair (.int IntKind.i32) (.int IntKind.i32))))], []⟩), ((.exit 4), ⟨[(1, (.slice (.st (.pair (.int IntKind.i32) (.int IntKind.i32))))), (2, (.slice (.st (.pair (.int IntKind.i32) (.int IntKind.i32))))), (3, (.oad 0 0)), (7, (.ow 1)), (10, (.ow 2)), (11, (.int IntKind.i64)), (12, (.int IntKind.i32)), (44, (.osl 1)), (45, (.int IntKind.i64)), (46, (.int IntKind.i64))], [(3, (.st (.clo 33 .unit))), (7, (.int IntKind.i32)), (10, (.st (.pair (.int IntKind.i32) (.int IntKind.i32))))], []⟩)]⟩ else if i = 1030008 then some ⟨⟨[], [], []⟩, [(.normal, ⟨[(1, (.slice (.st (.pair (.int IntKind.i32) (.int IntKind.i32))))), (2, (.slice (.st (.pair (.int IntKind.i32) (.int IntKind.i32))))), (3, (.oad 0 0)), (7, (.ow 1))], [(3, (.st (.clo 33 .unit))), (7, (.int IntKind.i32))], []⟩)]⟩ else if i = 4 then some ⟨⟨[(1, (.slice (.st (.pair (.int IntKind.i32) (.int IntKind.i32))))), (2, (.slice (.st (.pair (.int IntKind.i32) (.int IntKind.i32))))), (3, (.oad 0 0)), (7, (.ow 1)), (21, (.slice (.st (.pair (.int IntKind.i32) (.int IntKind.i32))))), (22, (.int IntKind.i64)), (23, (.int IntKind.i64))], [(3, (.st (.clo 33 .unit))), (7, (.int IntKind.i32))], []⟩, [((.exit 0), ⟨[(1, (.slice (.st (.pair (.int IntKind.i32) (.int IntKind.i32))))), (2, (.slice (.st (.pair (.int IntKind.i32) (.int IntKind.i32))))), (3, (.oad 0 0)), (7, (.ow 1))], [(3, (.st (.clo 33 .unit))), (7, (.int IntKind.i32))], []⟩)]⟩ else none
def runU_g : List (Nat × Ctr) := [(44, sortI_c), (45, compactI_c), (13, rNorm_c), (33, uF_c), (43, concat_c)]
theorem runU_eq (v : PDen runU_c.ps) : semF tbl (gam runU_g) runU_h fuelN 116 (bodyOf Try.f34) runU_c.ps runU_c.rs [6] v = runU_c.g v := by kernel_rfl

/- 34: (trema/rset.sweep).run -/
def runM_s6 (a1 : List (Int × Int)) (a2 : List (Int × Int)) (a3 : Int) (a21 : List (Int × Int)) (a22 : Int) (a23 : Int) (g3 : List Unit) (g7 : List Int) : Option (((List (Int × Int) × (List (Int × Int) × (Int × (List (Int × Int) × (Int × (Int × Unit)))))) × (List Unit × (List Int × Unit))) ⊕ ((List (Int × Int) × (List (Int × Int) × (Int × Unit))) × (List Unit × (List Int × Unit)))) :=
 bif (decide (a23 < a22)) then
 (Option.bind (lk a21 a23) fun x7 =>
 bif (roomOk (g7.length + [x7.1, (IntKind.i32.wrap (x7.2 + (1 : Int)))].length) 4) then
 some (.inl ((a1, (a2, (a3, (a21, (a22, ((IntKind.i64.wrap (a23 + (1 : Int))), ())))))), (g3, ((g7 ++ [x7.1, (IntKind.i32.wrap (x7.2 + (1 : Int)))]), ()))))
 else none)
 else
 some (.inr ((a1, (a2, (a3, ()))), (g3, (g7, ()))))

def runM_s19 (a1 : List (Int × Int)) (a2 : List (Int × Int)) (a3 : Int) (a11 : Int) (a12 : Int) (a44 : (Nat × Nat)) (a45 : Int) (a46 : Int) (g3 : List Unit) (g7 : List Int) (g10 : List (Int × Int)) : Option (((List (Int × Int) × (List (Int × Int) × (Int × (Int × (Int × ((Nat × Nat) × (Int × (Int × Unit)))))))) × (List Unit × (List Int × (List (Int × Int) × Unit)))) ⊕ ((List (Int × Int) × (List (Int × Int) × (Int × (Int × (Int × ((Nat × Nat) × (Int × (Int × Unit)))))))) × (List Unit × (List Int × (List (Int × Int) × Unit))))) :=
 (Option.bind (show Option (((List (Int × Int) × (List (Int × Int) × (Int × (Int × (Int × ((Nat × Nat) × (Int × (Int × Unit)))))))) × (List Unit × (List Int × (List (Int × Int) × Unit)))) ⊕ ((List (Int × Int) × (List (Int × Int) × (Int × (Int × (Int × ((Nat × Nat) × (Int × (Int × Unit)))))))) × (List Unit × (List Int × (List (Int × Int) × Unit))))) from
 bif (decide ((a1.length : Int) > (0 : Int))) then
 (Option.bind (lk a1 (0 : Int)) fun x21 =>
 bif (decide (x21.2 < a12)) then
 some (.inl ((a1, (a2, (a3, (a11, (a12, (a44, (a45, (a46, ())))))))), (g3, (g7, (g10, ())))))
 else
 some (.inr ((a1, (a2, (a3, (a11, (a12, (a44, (a45, (a46, ())))))))), (g3, (g7, (g10, ()))))))
 else
 some (.inr ((a1, (a2, (a3, (a11, (a12, (a44, (a45, (a46, ())))))))), (g3, (g7, (g10, ())))))) fun y22 =>
 (match y22 with
 | .inl y22 =>
 bif (inB (1 : Int) (y22.1.1.length : Int) y22.1.1.length) then
 some (.inl (((cut y22.1.1 (1 : Int) (y22.1.1.length : Int)), (y22.1.2.1, (y22.1.2.2.1, (y22.1.2.2.2.1, (y22.1.2.2.2.2.1, (y22.1.2.2.2.2.2.1, (y22.1.2.2.2.2.2.2.1, (y22.1.2.2.2.2.2.2.2.1, ())))))))), (y22.2.1, (y22.2.2.1, (y22.2.2.2.1, ())))))
 else none
 | .inr y22 =>
 some (.inr ((y22.1.1, (y22.1.2.1, (y22.1.2.2.1, (y22.1.2.2.2.1, (y22.1.2.2.2.2.1, (y22.1.2.2.2.2.2.1, (y22.1.2.2.2.2.2.2.1, (y22.1.2.2.2.2.2.2.2.1, ())))))))), (y22.2.1, (y22.2.2.1, (y22.2.2.2.1, ())))))))

def runM_s27 (a1 : List (Int × Int)) (a2 : List (Int × Int)) (a3 : Int) (a11 : Int) (a12 : Int) (a44 : (Nat × Nat)) (a45 : Int) (a46 : Int) (g3 : List Unit) (g7 : List Int) (g10 : List (Int × Int)) : Option (((List (Int × Int) × (List (Int × Int) × (Int × (Int × (Int × ((Nat × Nat) × (Int × (Int × Unit)))))))) × (List Unit × (List Int × (List (Int × Int) × Unit)))) ⊕ ((List (Int × Int) × (List (Int × Int) × (Int × (Int × (Int × ((Nat × Nat) × (Int × (Int × Unit)))))))) × (List Unit × (List Int × (List (Int × Int) × Unit))))) :=
 (Option.bind (show Option (((List (Int × Int) × (List (Int × Int) × (Int × (Int × (Int × ((Nat × Nat) × (Int × (Int × Unit)))))))) × (List Unit × (List Int × (List (Int × Int) × Unit)))) ⊕ ((List (Int × Int) × (List (Int × Int) × (Int × (Int × (Int × ((Nat × Nat) × (Int × (Int × Unit)))))))) × (List Unit × (List Int × (List (Int × Int) × Unit))))) from
 bif (decide ((a2.length : Int) > (0 : Int))) then
 (Option.bind (lk a2 (0 : Int)) fun x29 =>
 bif (decide (x29.2 < a12)) then
 some (.inl ((a1, (a2, (a3, (a11, (a12, (a44, (a45, (a46, ())))))))), (g3, (g7, (g10, ())))))
 else
 some (.inr ((a1, (a2, (a3, (a11, (a12, (a44, (a45, (a46, ())))))))), (g3, (g7, (g10, ()))))))
 else
 some (.inr ((a1, (a2, (a3, (a11, (a12, (a44, (a45, (a46, ())))))))), (g3, (g7, (g10, ())))))) fun y30 =>
 (match y30 with
 | .inl y30 =>
 bif (inB (1 : Int) (y30.1.2.1.length : Int) y30.1.2.1.length) then
 some (.inl ((y30.1.1, ((cut y30.1.2.1 (1 : Int) (y30.1.2.1.length : Int)), (y30.1.2.2.1, (y30.1.2.2.2.1, (y30.1.2.2.2.2.1, (y30.1.2.2.2.2.2.1, (y30.1.2.2.2.2.2.2.1, (y30.1.2.2.2.2.2.2.2.1, ())))))))), (y30.2.1, (y30.2.2.1, (y30.2.2.2.1, ())))))
 else none
 | .inr y30 =>
 some (.inr ((y30.1.1, (y30.1.2.1, (y30.1.2.2.1, (y30.1.2.2.2.1, (y30.1.2.2.2.2.1, (y30.1.2.2.2.2.2.1, (y30.1.2.2.2.2.2.2.1, (y30.1.2.2.2.2.2.2.2.1, ())))))))), (y30.2.1, (y30.2.2.1, (y30.2.2.2.1, ())))))))

def runM_s15 (a1 : List (Int × Int)) (a2 : List (Int × Int)) (a3 : Int) (a44 : (Nat × Nat)) (a45 : Int) (a46 : Int) (g3 : List Unit) (g7 : List Int) (g10 : List (Int × Int)) : Option (((List (Int × Int) × (List (Int × Int) × (Int × ((Nat × Nat) × (Int × (Int × Unit)))))) × (List Unit × (List Int × (List (Int × Int) × Unit)))) ⊕ (Unit × (List (Int × Int) × Unit))) :=
 bif (decide (a46 < a45)) then
 bif (inR a46 a44.2) then
 (Option.bind (lk g7 (plusI a44.1 a46)) fun x16 =>
 (Option.bind (show Option ((List (Int × Int) × (List (Int × Int) × (Int × (Int × (Int × ((Nat × Nat) × (Int × (Int × Unit)))))))) × (List Unit × (List Int × (List (Int × Int) × Unit)))) from
 (Option.bind (iterN (fun x => runM_s19 x.1.1 x.1.2.1 x.1.2.2.1 x.1.2.2.2.1 x.1.2.2.2.2.1 x.1.2.2.2.2.2.1 x.1.2.2.2.2.2.2.1 x.1.2.2.2.2.2.2.2.1 x.2.1 x.2.2.1 x.2.2.2.1) fuelN ((a1, (a2, (a3, (a46, (x16, (a44, (a45, (a46, ())))))))), (g3, (g7, (g10, ()))))) fun y23 =>
 some ((y23.1.1, (y23.1.2.1, (y23.1.2.2.1, (y23.1.2.2.2.1, (y23.1.2.2.2.2.1, (y23.1.2.2.2.2.2.1, (y23.1.2.2.2.2.2.2.1, (y23.1.2.2.2.2.2.2.2.1, ())))))))), (y23.2.1, (y23.2.2.1, (y23.2.2.2.1, ())))))) fun y24 =>
 (Option.bind (show Option ((List (Int × Int) × (List (Int × Int) × (Int × (Int × (Int × ((Nat × Nat) × (Int × (Int × Unit)))))))) × (List Unit × (List Int × (List (Int × Int) × Unit)))) from
 (Option.bind (iterN (fun x => runM_s27 x.1.1 x.1.2.1 x.1.2.2.1 x.1.2.2.2.1 x.1.2.2.2.2.1 x.1.2.2.2.2.2.1 x.1.2.2.2.2.2.2.1 x.1.2.2.2.2.2.2.2.1 x.2.1 x.2.2.1 x.2.2.2.1) fuelN ((y24.1.1, (y24.1.2.1, (y24.1.2.2.1, (y24.1.2.2.2.1, (y24.1.2.2.2.2.1, (y24.1.2.2.2.2.2.1, (y24.1.2.2.2.2.2.2.1, (y24.1.2.2.2.2.2.2.2.1, ())))))))), (y24.2.1, (y24.2.2.1, (y24.2.2.2.1, ()))))) fun y31 =>
 some ((y31.1.1, (y31.1.2.1, (y31.1.2.2.1, (y31.1.2.2.2.1, (y31.1.2.2.2.2.1, (y31.1.2.2.2.2.2.1, (y31.1.2.2.2.2.2.2.1, (y31.1.2.2.2.2.2.2.2.1, ())))))))), (y31.2.1, (y31.2.2.1, (y31.2.2.2.1, ())))))) fun y32 =>
 (Option.bind (show Option ((List (Int × Int) × (List (Int × Int) × (Int × (Int × (Int × ((Nat × Nat) × (Int × (Int × (Bool × Unit))))))))) × (List Unit × (List Int × (List (Int × Int) × Unit)))) from
 (Option.bind (lk y32.2.1 y32.1.2.2.1) fun x34 =>
 bif (decide ((y32.1.1.length : Int) > (0 : Int))) then
 (Option.bind (lk y32.1.1 (0 : Int)) fun x35 =>
 bif (decide ((y32.1.2.1.length : Int) > (0 : Int))) then
 (Option.bind (lk y32.1.2.1 (0 : Int)) fun x36 =>
 (Option.bind (mF (decide (x35.1 ≤ y32.1.2.2.2.2.1)) (decide (x36.1 ≤ y32.1.2.2.2.2.1))) fun r37 =>
 some ((y32.1.1, (y32.1.2.1, (y32.1.2.2.1, (y32.1.2.2.2.1, (y32.1.2.2.2.2.1, (y32.1.2.2.2.2.2.1, (y32.1.2.2.2.2.2.2.1, (y32.1.2.2.2.2.2.2.2.1, (r37.2.1, ()))))))))), (y32.2.1, (y32.2.2.1, (y32.2.2.2.1, ()))))))
 else
 (Option.bind (mF (decide (x35.1 ≤ y32.1.2.2.2.2.1)) false) fun r38 =>
 some ((y32.1.1, (y32.1.2.1, (y32.1.2.2.1, (y32.1.2.2.2.1, (y32.1.2.2.2.2.1, (y32.1.2.2.2.2.2.1, (y32.1.2.2.2.2.2.2.1, (y32.1.2.2.2.2.2.2.2.1, (r38.2.1, ()))))))))), (y32.2.1, (y32.2.2.1, (y32.2.2.2.1, ()))))))
 else
 bif (decide ((y32.1.2.1.length : Int) > (0 : Int))) then
 (Option.bind (lk y32.1.2.1 (0 : Int)) fun x39 =>
 (Option.bind (mF false (decide (x39.1 ≤ y32.1.2.2.2.2.1))) fun r40 =>
 some ((y32.1.1, (y32.1.2.1, (y32.1.2.2.1, (y32.1.2.2.2.1, (y32.1.2.2.2.2.1, (y32.1.2.2.2.2.2.1, (y32.1.2.2.2.2.2.2.1, (y32.1.2.2.2.2.2.2.2.1, (r40.2.1, ()))))))))), (y32.2.1, (y32.2.2.1, (y32.2.2.2.1, ()))))))
 else
 (Option.bind (mF false false) fun r41 =>
 some ((y32.1.1, (y32.1.2.1, (y32.1.2.2.1, (y32.1.2.2.2.1, (y32.1.2.2.2.2.1, (y32.1.2.2.2.2.2.1, (y32.1.2.2.2.2.2.2.1, (y32.1.2.2.2.2.2.2.2.1, (r41.2.1, ()))))))))), (y32.2.1, (y32.2.2.1, (y32.2.2.2.1, ()))))))) fun y42 =>
 bif y42.1.2.2.2.2.2.2.2.2.1 then
 (Option.bind (lk y42.2.2.1 (IntKind.i64.wrap (y42.1.2.2.2.1 + (1 : Int)))) fun _x43 =>
 (Option.bind (lk y42.2.2.1 (IntKind.i64.wrap (y42.1.2.2.2.1 + (1 : Int)))) fun x44 =>
 bif (roomOk (y42.2.2.2.1.length + [(y42.1.2.2.2.2.1, (IntKind.i32.wrap (x44 - (1 : Int))))].length) 8) then
 let l45 := (y42.2.2.2.1 ++ [(y42.1.2.2.2.2.1, (IntKind.i32.wrap (x44 - (1 : Int))))])
 some (.inl ((y42.1.1, (y42.1.2.1, (y42.1.2.2.1, (y42.1.2.2.2.2.2.1, (y42.1.2.2.2.2.2.2.1, ((IntKind.i64.wrap (y42.1.2.2.2.2.2.2.2.1 + (1 : Int))), ())))))), (y42.2.1, (y42.2.2.1, (l45, ())))))
 else none))
 else
 some (.inl ((y42.1.1, (y42.1.2.1, (y42.1.2.2.1, (y42.1.2.2.2.2.2.1, (y42.1.2.2.2.2.2.2.1, ((IntKind.i64.wrap (y42.1.2.2.2.2.2.2.2.1 + (1 : Int))), ())))))), (y42.2.1, (y42.2.2.1, (y42.2.2.2.1, ())))))))))
 else none
 else
 some (.inr ((), (g10, ())))

def runM (p1 : List (Int × Int)) (p2 : List (Int × Int)) : Option (Unit × (List (Int × Int) × Unit)) :=
 (Option.bind (rNorm p1) fun r1 =>
 (Option.bind (rNorm p2) fun r2 =>
 (Option.bind (show Option ((List (Int × Int) × (List (Int × Int) × (Int × Unit))) × (List Unit × (List Int × Unit))) from
 (Option.bind (concat [r1.2.1, r2.2.1]) fun r4 =>
 (Option.bind (iterN (fun x => runM_s6 x.1.1 x.1.2.1 x.1.2.2.1 x.1.2.2.2.1 x.1.2.2.2.2.1 x.1.2.2.2.2.2.1 x.2.1 x.2.2.1) fuelN ((r1.2.1, (r2.2.1, ((0 : Int), (r4.2.1, ((r4.2.1.length : Int), ((0 : Int), ())))))), ([()], ([(0 : Int), (1114112 : Int)], ())))) fun y8 =>
 some ((y8.1.1, (y8.1.2.1, (y8.1.2.2.1, ()))), (y8.2.1, (y8.2.2.1, ())))))) fun y9 =>
 (Option.bind (sortI y9.2.2.1) fun r10 =>
 (Option.bind (compactI r10.1) fun r11 =>
 (Option.bind (show Option (Unit × (List (Int × Int) × Unit)) from
 bif (inB (0 : Int) (IntKind.i64.wrap ((r11.2.1.length : Int) - (1 : Int))) r11.2.1.length) then
 let v13 := ((IntKind.i64.wrap ((r11.2.1.length : Int) - (1 : Int))) - (0 : Int)).toNat
 (Option.bind (iterN (fun x => runM_s15 x.1.1 x.1.2.1 x.1.2.2.1 x.1.2.2.2.1 x.1.2.2.2.2.1 x.1.2.2.2.2.2.1 x.2.1 x.2.2.1 x.2.2.2.1) fuelN ((y9.1.1, (y9.1.2.1, (y9.1.2.2.1, (((0 : Int).toNat, v13), ((v13 : Int), ((0 : Int), ())))))), (y9.2.1, (r11.2.1, (([] : List (Int × Int)), ()))))) fun y46 =>
 some ((), (y46.2.1, ())))
 else none) fun y47 =>
 (Option.bind (rNorm y47.2.1) fun r48 =>
 some ((), (r48.2.1, ())))))))))


def runM_c : Ctr := ⟨[.ro (.st (.clo 35 .unit)), .ro (.slice (.st (.pair (.int IntKind.i32) (.int IntKind.i32)))), .ro (.slice (.st (.pair (.int IntKind.i32) (.int IntKind.i32))))], [.val (.slice (.st (.pair (.int IntKind.i32) (.int IntKind.i32))))], fun v => runM v.2.1 v.2.2.1⟩
def runM_h : Nat → Option LH := fun i => if i = 1110021 then some ⟨⟨[], [], []⟩, [(.normal, ⟨[(10, (.ow 0))], [(10, (.st (.pair (.int IntKind.i32) (.int IntKind.i32))))], []⟩)]⟩ else if i = 12 then some ⟨⟨[(1, (.slice (.st (.pair (.int IntKind.i32) (.int IntKind.i32))))), (2, (.slice (.st (.pair (.int IntKind.i32) (.int IntKind.i32))))), (3, (.oad 0 0)), (7, (.ow 1)), (10, (.ow 2)), (44, (.osl 1)), (45, (.int IntKind.i64)), (46, (.int IntKind.i64))], [(3, (.st (.clo 35 .unit))), (7, (.int IntKind.i32)), (10, (.st (.pair (.int IntKind.i32) (.int IntKind.i32))))], []⟩, [((.exit 2), ⟨[(10, (.ow 0))], [(10, (.st (.pair (.int IntKind.i32) (.int IntKind.i32))))], []⟩)]⟩ else if i = 1180019 then some ⟨⟨[], [], []⟩, [(.normal, ⟨[(1, (.slice (.st (.pair (.int IntKind.i32) (.int IntKind.i32))))), (2, (.slice (.st (.pair (.int IntKind.i32) (.int IntKind.i32))))), (3, (.oad 0 0)), (7, (.ow 1)), (10, (.ow 2)), (11, (.int IntKind.i64)), (12, (.int IntKind.i32)), (44, (.osl 1)), (45, (.int IntKind.i64)), (46, (.int IntKind.i64)), (101, .bool)], [(3, (.st (.clo 35 .unit))), (7, (.int IntKind.i32)), (10, (.st (.pair (.int IntKind.i32) (.int IntKind.i32))))], []⟩)]⟩ else if i = 1160018 then some ⟨⟨[], [], []⟩, [(.normal, ⟨[(1, (.slice (.st (.pair (.int IntKind.i32) (.int IntKind.i32))))), (2, (.slice (.st (.pair (.int IntKind.i32) (.int IntKind.i32))))), (3, (.oad 0 0)), (7, (.ow 1)), (10, (.ow 2)), (11, (.int IntKind.i64)), (12, (.int IntKind.i32)), (44, (.osl 1)), (45, (.int IntKind.i64)), (46, (.int IntKind.i64))], [(3, (.st (.clo 35 .unit))), (7, (.int IntKind.i32)), (10, (.st (.pair (.int IntKind.i32) (.int IntKind.i32))))], []⟩)]⟩ else if i = 16 then some ⟨⟨[(1, (.slice (.st (.pair (.int IntKind.i32) (.int IntKind.i32))))), (2, (.slice (.st (.pair (.int IntKind.i32) (.int IntKind.i32))))), (3, (.oad 0 0)), (7, (.ow 1)), (10, (.ow 2)), (11, (.int IntKind.i64)), (12, (.int IntKind.i32)), (44, (.osl 1)), (45, (.int IntKind.i64)), (46, (.int IntKind.i64))], [(3, (.st (.clo 35 .unit))), (7, (.int IntKind.i32)), (10, (.st (.pair (.int IntKind.i32) (.int IntKind.i32))))], []⟩, [((.exit 6), ⟨[(1, (.slice (.st (.pair (.int IntKind.i32) (.int IntKind.i32))))), (2, (.slice (.st (.pair (.int IntKind.i32) (.int IntKind.i32))))), (3, (.oad 0 0)), (7, (.ow 1)), (10, (.ow 2)), (11, (.int IntKind.i64)), (12, (.int IntKind.i32)), (44, (.osl 1)), (45, (.int IntKind.i64)), (46, (.int IntKind.i64))], [(3, (.st (.clo 35 .unit))), (7, (.int IntKind.i32)), (10, (.st (.pair (.int IntKind.i32) (.int IntKind.i32))))], []⟩)]⟩ else if i = 1160017 then some ⟨⟨[], [], []⟩, [(.normal, ⟨[(1, (.slice (.st (.pair (.int IntKind.i32) (.int IntKind.i32))))), (2, (.slice (.st (.pair (.int IntKind.i32) (.int IntKind.i32))))), (3, (.oad 0 0)), (7, (.ow 1)), (10, (.ow 2)), (11, (.int IntKind.i64)), (12, (.int IntKind.i32)), (44, (.osl 1)), (45, (.int IntKind.i64)), (46, (.int IntKind.i64))], [(3, (.st (.clo 35 .unit))), (7, (.int IntKind.i32)), (10, (.st (.pair (.int IntKind.i32) (.int IntKind.i32))))], []⟩), ((.exit 6), ⟨[(1, (.slice (.st (.pair (.int IntKind.i32) (.int IntKind.i32))))), (2, (.slice (.st (.pair (.int IntKind.i32) (.int IntKind.i32))))), (3, (.oad 0 0)), (7, (.ow 1)), (10, (.ow 2)), (11, (.int IntKind.i64)), (12, (.int IntKind.i32)), (44, (.osl 1)), (45, (.int IntKind.i64)), (46, (.int IntKind.i64))], [(3, (.st (.clo 35 .unit))), (7, (.int IntKind.i32)), (10, (.st (.pair (.int IntKind.i32) (.int IntKind.i32))))], []⟩)]⟩ else if i = 1140016 then some ⟨⟨[], [], []⟩, [(.normal, ⟨[(1, (.slice (.st (.pair (.int IntKind.i32) (.int IntKind.i32))))), (2, (.slice (.st (.pair (.int IntKind.i32) (.int IntKind.i32))))), (3, (.oad 0 0)), (7, (.ow 1)), (10, (.ow 2)), (11, (.int IntKind.i64)), (12, (.int IntKind.i32)), (44, (.osl 1)), (45, (.int IntKind.i64)), (46, (.int IntKind.i64))], [(3, (.st (.clo 35 .unit))), (7, (.int IntKind.i32)), (10, (.st (.pair (.int IntKind.i32) (.int IntKind.i32))))], []⟩)]⟩ else if i = 14 then some ⟨⟨[(1, (.slice (.st (.pair (.int IntKind.i32) (.int IntKind.i32))))), (2, (.slice (.st (.pair (.int IntKind.i32) (.int IntKind.i32))))), (3, (.oad 0 0)), (7, (.ow 1)), (10, (.ow 2)), (11, (.int IntKind.i64)), (12, (.int IntKind.i32)), (44, (.osl 1)), (45, (.int IntKind.i64)), (46, (.int IntKind.i64))], [(3, (.st (.clo 35 .unit))), (7, (.int IntKind.i32)), (10, (.st (.pair (.int IntKind.i32) (.int IntKind.i32))))], []⟩, [((.exit 4), ⟨[(1, (.slice (.st (.pair (.int IntKind.i32) (.int IntKind.i32))))), (2, (.slice (.st (.pair (.int IntKind.i32) (.int IntKind.i32))))), (3, (.oad 0 0)), (7, (.ow 1)), (10, (.ow 2)), (11, (.int IntKind.i64)), (12, (.int IntKind.i32)), (44, (.osl 1)), (45, (.int IntKind.i64)), (46, (.int IntKind.i64))], [(3, (.st (.clo 35 .unit))), (7, (.int IntKind.i32)), (10, (.st (.pair (.int IntKind.i32) (.int IntKind.i32))))], []⟩)]⟩ else if i = 1140015 then some ⟨⟨[], [], []⟩, [(.normal, ⟨[(1, (.slice (.st (.pair (.int IntKind.i32) (.int IntKind.i32))))), (2, (.slice (.st (.pair (.int IntKind.i32) (.int IntKind.i32))))), (3, (.oad 0 0)), (7, (.ow 1)), (10, (.ow 2)), (11, (.int IntKind.i64)), (12, (.int IntKind.i32)), (44, (.osl 1)), (45, (.int IntKind.i64)), (46, (.int IntKind.i64))], [(3, (.st (.clo 35 .unit))), (7, (.int IntKind.i32)), (10, (.st (.pair (.int IntKind.i32) (.int IntKind.i32))))], []⟩), ((.exit 4), ⟨[(1, (.slice (.st (.pair (.int IntKind.i32) (.int IntKind.i32))))), (2, (.slice (.st (.pair (.int IntKind.i32) (.int IntKind.i32))))), (3, (.oad 0 0)), (7, (.ow 1)), (10, (.ow 2)), (11, (.int IntKind.i64)), (12, (.int IntKind.i32)), (44, (.osl 1)), (45, (.int IntKind.i64)), (46, (.int IntKind.i64))], [(3, (.st (.clo 35 .unit))), (7, (.int IntKind.i32)), (10, (.st (.pair (.int IntKind.i32) (.int IntKind.i32))))], []⟩)]⟩ else if i = 1030008 then some ⟨⟨[], [], []⟩, [(.normal, ⟨[(1, (.slice (.st (.pair (.int IntKind.i32) (.int IntKind.i32))))), (2, (.slice (.st (.pair (.int IntKind.i32) (.int IntKind.i32))))), (3, (.oad 0 0)), (7, (.ow 1))], [(3, (.st (.clo 35 .unit))), (7, (.int IntKind.i32))], []⟩)]⟩ else if i = 4 then some ⟨⟨[(1, (.slice (.st (.pair (.int IntKind.i32) (.int IntKind.i32))))), (2, (.slice (.st (.pair (.int IntKind.i32) (.int IntKind.i32))))), (3, (.oad 0 0)), (7, (.ow 1)), (21, (.slice (.st (.pair (.int IntKind.i32) (.int IntKind.i32))))), (22, (.int IntKind.i64)), (23, (.int IntKind.i64))], [(3, (.st (.clo 35 .unit))), (7, (.int IntKind.i32))], []⟩, [((.exit 0), ⟨[(1, (.slice (.st (.pair (.int IntKind.i32) (.int IntKind.i32))))), (2, (.slice (.st (.pair (.int IntKind.i32) (.int IntKind.i32))))), (3, (.oad 0 0)), (7, (.ow 1))], [(3, (.st (.clo 35 .unit))), (7, (.int IntKind.i32))], []⟩)]⟩ else none
def runM_g : List (Nat × Ctr) := [(44, sortI_c), (45, compactI_c), (13, rNorm_c), (35, mF_c), (43, concat_c)]
theorem runM_eq (v : PDen runM_c.ps) : semF tbl (gam runM_g) runM_h fuelN 116 (bodyOf Try.f34) runM_c.ps runM_c.rs [6] v = runM_c.g v := by kernel_rfl

/- 34: (trema/rset.sweep).run -/
def runD_s6 (a1 : List (Int × Int)) (a2 : List (Int × Int)) (a3 : Int) (a21 : List (Int × Int)) (a22 : Int) (a23 : Int) (g3 : List Unit) (g7 : List Int) : Option (((List (Int × Int) × (List (Int × Int) × (Int × (List (Int × Int) × (Int × (Int × Unit)))))) × (List Unit × (List Int × Unit))) ⊕ ((List (Int × Int) × (List (Int × Int) × (Int × Unit))) × (List Unit × (List Int × Unit)))) :=
 bif (decide (a23 < a22)) then
 (Option.bind (lk a21 a23) fun x7 =>
 bif (roomOk (g7.length + [x7.1, (IntKind.i32.wrap (x7.2 + (1 : Int)))].length) 4) then
 some (.inl ((a1, (a2, (a3, (a21, (a22, ((IntKind.i64.wrap (a23 + (1 : Int))), ())))))), (g3, ((g7 ++ [x7.1, (IntKind.i32.wrap (x7.2 + (1 : Int)))]), ()))))
 else none)
 else
 some (.inr ((a1, (a2, (a3, ()))), (g3, (g7, ()))))

def runD_s19 (a1 : List (Int × Int)) (a2 : List (Int × Int)) (a3 : Int) (a11 : Int) (a12 : Int) (a44 : (Nat × Nat)) (a45 : Int) (a46 : Int) (g3 : List Unit) (g7 : List Int) (g10 : List (Int × Int)) : Option (((List (Int × Int) × (List (Int × Int) × (Int × (Int × (Int × ((Nat × Nat) × (Int × (Int × Unit)))))))) × (List Unit × (List Int × (List (Int × Int) × Unit)))) ⊕ ((List (Int × Int) × (List (Int × Int) × (Int × (Int × (Int × ((Nat × Nat) × (Int × (Int × Unit)))))))) × (List Unit × (List Int × (List (Int × Int) × Unit))))) :=
 (Option.bind (show Option (((List (Int × Int) × (List (Int × Int) × (Int × (Int × (Int × ((Nat × Nat) × (Int × (Int × Unit)))))))) × (List Unit × (List Int × (List (Int × Int) × Unit)))) ⊕ ((List (Int × Int) × (List (Int × Int) × (Int × (Int × (Int × ((Nat × Nat) × (Int × (Int × Unit)))))))) × (List Unit × (List Int × (List (Int × Int) × Unit))))) from
 bif (decide ((a1.length : Int) > (0 : Int))) then
 (Option.bind (lk a1 (0 : Int)) fun x21 =>
 bif (decide (x21.2 < a12)) then
 some (.inl ((a1, (a2, (a3, (a11, (a12, (a44, (a45, (a46, ())))))))), (g3, (g7, (g10, ())))))
 else
 some (.inr ((a1, (a2, (a3, (a11, (a12, (a44, (a45, (a46, ())))))))), (g3, (g7, (g10, ()))))))
 else
 some (.inr ((a1, (a2, (a3, (a11, (a12, (a44, (a45, (a46, ())))))))), (g3, (g7, (g10, ())))))) fun y22 =>
 (match y22 with
 | .inl y22 =>
 bif (inB (1 : Int) (y22.1.1.length : Int) y22.1.1.length) then
 some (.inl (((cut y22.1.1 (1 : Int) (y22.1.1.length : Int)), (y22.1.2.1, (y22.1.2.2.1, (y22.1.2.2.2.1, (y22.1.2.2.2.2.1, (y22.1.2.2.2.2.2.1, (y22.1.2.2.2.2.2.2.1, (y22.1.2.2.2.2.2.2.2.1, ())))))))), (y22.2.1, (y22.2.2.1, (y22.2.2.2.1, ())))))
 else none
 | .inr y22 =>
 some (.inr ((y22.1.1, (y22.1.2.1, (y22.1.2.2.1, (y22.1.2.2.2.1, (y22.1.2.2.2.2.1, (y22.1.2.2.2.2.2.1, (y22.1.2.2.2.2.2.2.1, (y22.1.2.2.2.2.2.2.2.1, ())))))))), (y22.2.1, (y22.2.2.1, (y22.2.2.2.1, ())))))))

def runD_s27 (a1 : List (Int × Int)) (a2 : List (Int × Int)) (a3 : Int) (a11 : Int) (a12 : Int) (a44 : (Nat × Nat)) (a45 : Int) (a46 : Int) (g3 : List Unit) (g7 : List Int) (g10 : List (Int × Int)) : Option (((List (Int × Int) × (List (Int × Int) × (Int × (Int × (Int × ((Nat × Nat) × (Int × (Int × Unit)))))))) × (List Unit × (List Int × (List (Int × Int) × Unit)))) ⊕ ((List (Int × Int) × (List (Int × Int) × (Int × (Int × (Int × ((Nat × Nat) × (Int × (Int × Unit)))))))) × (List Unit × (List Int × (List (Int × Int) × Unit))))) :=
 (Option.bind (show Option (((List (Int × Int) × (List (Int × Int) × (Int × (Int × (Int × ((Nat × Nat) × (Int × (Int × Unit)))))))) × (List Unit × (List Int × (List (Int × Int) × Unit)))) ⊕ ((List (Int × Int) × (List (Int × Int) × (Int × (Int × (Int × ((Nat × Nat) × (Int × (Int × Unit)))))))) × (List Unit × (List Int × (List (Int × Int) × Unit))))) from
 bif (decide ((a2.length : Int) > (0 : Int))) then
 (Option.bind (lk a2 (0 : Int)) fun x29 =>
 bif (decide (x29.2 < a12)) then
 some (.inl ((a1, (a2, (a3, (a11, (a12, (a44, (a45, (a46, ())))))))), (g3, (g7, (g10, ())))))
 else
 some (.inr ((a1, (a2, (a3, (a11, (a12, (a44, (a45, (a46, ())))))))), (g3, (g7, (g10, ()))))))
 else
 some (.inr ((a1, (a2, (a3, (a11, (a12, (a44, (a45, (a46, ())))))))), (g3, (g7, (g10, ())))))) fun y30 =>
 (match y30 with
 | .inl y30 =>
 bif (inB (1 : Int) (y30.1.2.1.length : Int) y30.1.2.1.length) then
 some (.inl ((y30.1.1, ((cut y30.1.2.1 (1 : Int) (y30.1.2.1.length : Int)), (y30.1.2.2.1, (y30.1.2.2.2.1, (y30.1.2.2.2.2.1, (y30.1.2.2.2.2.2.1, (y30.1.2.2.2.2.2.2.1, (y30.1.2.2.2.2.2.2.2.1, ())))))))), (y30.2.1, (y30.2.2.1, (y30.2.2.2.1, ())))))
 else none
 | .inr y30 =>
 some (.inr ((y30.1.1, (y30.1.2.1, (y30.1.2.2.1, (y30.1.2.2.2.1, (y30.1.2.2.2.2.1, (y30.1.2.2.2.2.2.1, (y30.1.2.2.2.2.2.2.1, (y30.1.2.2.2.2.2.2.2.1, ())))))))), (y30.2.1, (y30.2.2.1, (y30.2.2.2.1, ())))))))

def runD_s15 (a1 : List (Int × Int)) (a2 : List (Int × Int)) (a3 : Int) (a44 : (Nat × Nat)) (a45 : Int) (a46 : Int) (g3 : List Unit) (g7 : List Int) (g10 : List (Int × Int)) : Option (((List (Int × Int) × (List (Int × Int) × (Int × ((Nat × Nat) × (Int × (Int × Unit)))))) × (List Unit × (List Int × (List (Int × Int) × Unit)))) ⊕ (Unit × (List (Int × Int) × Unit))) :=
 bif (decide (a46 < a45)) then
 bif (inR a46 a44.2) then
 (Option.bind (lk g7 (plusI a44.1 a46)) fun x16 =>
 (Option.bind (show Option ((List (Int × Int) × (List (Int × Int) × (Int × (Int × (Int × ((Nat × Nat) × (Int × (Int × Unit)))))))) × (List Unit × (List Int × (List (Int × Int) × Unit)))) from
 (Option.bind (iterN (fun x => runD_s19 x.1.1 x.1.2.1 x.1.2.2.1 x.1.2.2.2.1 x.1.2.2.2.2.1 x.1.2.2.2.2.2.1 x.1.2.2.2.2.2.2.1 x.1.2.2.2.2.2.2.2.1 x.2.1 x.2.2.1 x.2.2.2.1) fuelN ((a1, (a2, (a3, (a46, (x16, (a44, (a45, (a46, ())))))))), (g3, (g7, (g10, ()))))) fun y23 =>
 some ((y23.1.1, (y23.1.2.1, (y23.1.2.2.1, (y23.1.2.2.2.1, (y23.1.2.2.2.2.1, (y23.1.2.2.2.2.2.1, (y23.1.2.2.2.2.2.2.1, (y23.1.2.2.2.2.2.2.2.1, ())))))))), (y23.2.1, (y23.2.2.1, (y23.2.2.2.1, ())))))) fun y24 =>
 (Option.bind (show Option ((List (Int × Int) × (List (Int × Int) × (Int × (Int × (Int × ((Nat × Nat) × (Int × (Int × Unit)))))))) × (List Unit × (List Int × (List (Int × Int) × Unit)))) from
 (Option.bind (iterN (fun x => runD_s27 x.1.1 x.1.2.1 x.1.2.2.1 x.1.2.2.2.1 x.1.2.2.2.2.1 x.1.2.2.2.2.2.1 x.1.2.2.2.2.2.2.1 x.1.2.2.2.2.2.2.2.1 x.2.1 x.2.2.1 x.2.2.2.1) fuelN ((y24.1.1, (y24.1.2.1, (y24.1.2.2.1, (y24.1.2.2.2.1, (y24.1.2.2.2.2.1, (y24.1.2.2.2.2.2.1, (y24.1.2.2.2.2.2.2.1, (y24.1.2.2.2.2.2.2.2.1, ())))))))), (y24.2.1, (y24.2.2.1, (y24.2.2.2.1, ()))))) fun y31 =>
 some ((y31.1.1, (y31.1.2.1, (y31.1.2.2.1, (y31.1.2.2.2.1, (y31.1.2.2.2.2.1, (y31.1.2.2.2.2.2.1, (y31.1.2.2.2.2.2.2.1, (y31.1.2.2.2.2.2.2.2.1, ())))))))), (y31.2.1, (y31.2.2.1, (y31.2.2.2.1, ())))))) fun y32 =>
 (Option.bind (show Option ((List (Int × Int) × (List (Int × Int) × (Int × (Int × (Int × ((Nat × Nat) × (Int × (Int × (Bool × Unit))))))))) × (List Unit × (List Int × (List (Int × Int) × Unit)))) from
 (Option.bind (lk y32.2.1 y32.1.2.2.1) fun x34 =>
 bif (decide ((y32.1.1.length : Int) > (0 : Int))) then
 (Option.bind (lk y32.1.1 (0 : Int)) fun x35 =>
 bif (decide ((y32.1.2.1.length : Int) > (0 : Int))) then
 (Option.bind (lk y32.1.2.1 (0 : Int)) fun x36 =>
 (Option.bind (dF (decide (x35.1 ≤ y32.1.2.2.2.2.1)) (decide (x36.1 ≤ y32.1.2.2.2.2.1))) fun r37 =>
 some ((y32.1.1, (y32.1.2.1, (y32.1.2.2.1, (y32.1.2.2.2.1, (y32.1.2.2.2.2.1, (y32.1.2.2.2.2.2.1, (y32.1.2.2.2.2.2.2.1, (y32.1.2.2.2.2.2.2.2.1, (r37.2.1, ()))))))))), (y32.2.1, (y32.2.2.1, (y32.2.2.2.1, ()))))))
 else
 (Option.bind (dF (decide (x35.1 ≤ y32.1.2.2.2.2.1)) false) fun r38 =>
 some ((y32.1.1, (y32.1.2.1, (y32.1.2.2.1, (y32.1.2.2.2.1, (y32.1.2.2.2.2.1, (y32.1.2.2.2.2.2.1, (y32.1.2.2.2.2.2.2.1, (y32.1.2.2.2.2.2.2.2.1, (r38.2.1, ()))))))))), (y32.2.1, (y32.2.2.1, (y32.2.2.2.1, ()))))))
 else
 bif (decide ((y32.1.2.1.length : Int) > (0 : Int))) then
 (Option.bind (lk y32.1.2.1 (0 : Int)) fun x39 =>
 (Option.bind (dF false (decide (x39.1 ≤ y32.1.2.2.2.2.1))) fun r40 =>
 some ((y32.1.1, (y32.1.2.1, (y32.1.2.2.1, (y32.1.2.2.2.1, (y32.1.2.2.2.2.1, (y32.1.2.2.2.2.2.1, (y32.1.2.2.2.2.2.2.1, (y32.1.2.2.2.2.2.2.2.1, (r40.2.1, ()))))))))), (y32.2.1, (y32.2.2.1, (y32.2.2.2.1, ()))))))
 else
 (Option.bind (dF false false) fun r41 =>
 some ((y32.1.1, (y32.1.2.1, (y32.1.2.2.1, (y32.1.2.2.2.1, (y32.1.2.2.2.2.1, (y32.1.2.2.2.2.2.1, (y32.1.2.2.2.2.2.2.1, (y32.1.2.2.2.2.2.2.2.1, (r41.2.1, ()))))))))), (y32.2.1, (y32.2.2.1, (y32.2.2.2.1, ()))))))) fun y42 =>
 bif y42.1.2.2.2.2.2.2.2.2.1 then
 (Option.bind (lk y42.2.2.1 (IntKind.i64.wrap (y42.1.2.2.2.1 + (1 : Int)))) fun _x43 =>
 (Option.bind (lk y42.2.2.1 (IntKind.i64.wrap (y42.1.2.2.2.1 + (1 : Int)))) fun x44 =>
 bif (roomOk (y42.2.2.2.1.length + [(y42.1.2.2.2.2.1, (IntKind.i32.wrap (x44 - (1 : Int))))].length) 8) then
 let l45 := (y42.2.2.2.1 ++ [(y42.1.2.2.2.2.1, (IntKind.i32.wrap (x44 - (1 : Int))))])
 some (.inl ((y42.1.1, (y42.1.2.1, (y42.1.2.2.1, (y42.1.2.2.2.2.2.1, (y42.1.2.2.2.2.2.2.1, ((IntKind.i64.wrap (y42.1.2.2.2.2.2.2.2.1 + (1 : Int))), ())))))), (y42.2.1, (y42.2.2.1, (l45, ())))))
 else none))
 else
 some (.inl ((y42.1.1, (y42.1.2.1, (y42.1.2.2.1, (y42.1.2.2.2.2.2.1, (y42.1.2.2.2.2.2.2.1, ((IntKind.i64.wrap (y42.1.2.2.2.2.2.2.2.1 + (1 : Int))), ())))))), (y42.2.1, (y42.2.2.1, (y42.2.2.2.1, ())))))))))
 else none
 else
 some (.inr ((), (g10, ())))

def runD (p1 : List (Int × Int)) (p2 : List (Int × Int)) : Option (Unit × (List (Int × Int) × Unit)) :=
 (Option.bind (rNorm p1) fun r1 =>
 (Option.bind (rNorm p2) fun r2 =>
 (Option.bind (show Option ((List (Int × Int) × (List (Int × Int) × (Int × Unit))) × (List Unit × (List Int × Unit))) from
 (Option.bind (concat [r1.2.1, r2.2.1]) fun r4 =>
 (Option.bind (iterN (fun x => runD_s6 x.1.1 x.1.2.1 x.1.2.2.1 x.1.2.2.2.1 x.1.2.2.2.2.1 x.1.2.2.2.2.2.1 x.2.1 x.2.2.1) fuelN ((r1.2.1, (r2.2.1, ((0 : Int), (r4.2.1, ((r4.2.1.length : Int), ((0 : Int), ())))))), ([()], ([(0 : Int), (1114112 : Int)], ())))) fun y8 =>
 some ((y8.1.1, (y8.1.2.1, (y8.1.2.2.1, ()))), (y8.2.1, (y8.2.2.1, ())))))) fun y9 =>
 (Option.bind (sortI y9.2.2.1) fun r10 =>
 (Option.bind (compactI r10.1) fun r11 =>
 (Option.bind (show Option (Unit × (List (Int × Int) × Unit)) from
 bif (inB (0 : Int) (IntKind.i64.wrap ((r11.2.1.length : Int) - (1 : Int))) r11.2.1.length) then
 let v13 := ((IntKind.i64.wrap ((r11.2.1.length : Int) - (1 : Int))) - (0 : Int)).toNat
 (Option.bind (iterN (fun x => runD_s15 x.1.1 x.1.2.1 x.1.2.2.1 x.1.2.2.2.1 x.1.2.2.2.2.1 x.1.2.2.2.2.2.1 x.2.1 x.2.2.1 x.2.2.2.1) fuelN ((y9.1.1, (y9.1.2.1, (y9.1.2.2.1, (((0 : Int).toNat, v13), ((v13 : Int), ((0 : Int), ())))))), (y9.2.1, (r11.2.1, (([] : List (Int × Int)), ()))))) fun y46 =>
 some ((), (y46.2.1, ())))
 else none) fun y47 =>
 (Option.bind (rNorm y47.2.1) fun r48 =>
 some ((), (r48.2.1, ())))))))))


def runD_c : Ctr := ⟨[.ro (.st (.clo 36 .unit)), .ro (.slice (.st (.pair (.int IntKind.i32) (.int IntKind.i32)))), .ro (.slice (.st (.pair (.int IntKind.i32) (.int IntKind.i32))))], [.val (.slice (.st (.pair (.int IntKind.i32) (.int IntKind.i32))))], fun v => runD v.2.1 v.2.2.1⟩
def runD_h : Nat → Option LH := fun i => if i = 1110021 then some ⟨⟨[], [], []⟩, [(.normal, ⟨[(10, (.ow 0))], [(10, (.st (.pair (.int IntKind.i32) (.int IntKind.i32))))], []⟩)]⟩ else if i = 12 then some ⟨⟨[(1, (.slice (.st (.pair (.int IntKind.i32) (.int IntKind.i32))))), (2, (.slice (.st (.pair (.int IntKind.i32) (.int IntKind.i32))))), (3, (.oad 0 0)), (7, (.ow 1)), (10, (.ow 2)), (44, (.osl 1)), (45, (.int IntKind.i64)), (46, (.int IntKind.i64))], [(3, (.st (.clo 36 .unit))), (7, (.int IntKind.i32)), (10, (.st (.pair (.int IntKind.i32) (.int IntKind.i32))))], []⟩, [((.exit 2), ⟨[(10, (.ow 0))], [(10, (.st (.pair (.int IntKind.i32) (.int IntKind.i32))))], []⟩)]⟩ else if i = 1180019 then some ⟨⟨[], [], []⟩, [(.normal, ⟨[(1, (.slice (.st (.pair (.int IntKind.i32) (.int IntKind.i32))))), (2, (.slice (.st (.pair (.int IntKind.i32) (.int IntKind.i32))))), (3, (.oad 0 0)), (7, (.ow 1)), (10, (.ow 2)), (11, (.int IntKind.i64)), (12, (.int IntKind.i32)), (44, (.osl 1)), (45, (.int IntKind.i64)), (46, (.int IntKind.i64)), (101, .bool)], [(3, (.st (.clo 36 .unit))), (7, (.int IntKind.i32)), (10, (.st (.pair (.int IntKind.i32) (.int IntKind.i32))))], []⟩)]⟩ else if i = 1160018 then some ⟨⟨[], [], []⟩, [(.normal, ⟨[(1, (.slice (.st (.pair (.int IntKind.i32) (.int IntKind.i32))))), (2, (.slice (.st (.pair (.int IntKind.i32) (.int IntKind.i32))))), (3, (.oad 0 0)), (7, (.ow 1)), (10, (.ow 2)), (11, (.int IntKind.i64)), (12, (.int IntKind.i32)), (44, (.osl 1)), (45, (.int IntKind.i64)), (46, (.int IntKind.i64))], [(3, (.st (.clo 36 .unit))), (7, (.int IntKind.i32)), (10, (.st (.pair (.int IntKind.i32) (.int IntKind.i32))))], []⟩)]⟩ else if i = 16 then some ⟨⟨[(1, (.slice (.st (.pair (.int IntKind.i32) (.int IntKind.i32))))), (2, (.slice (.st (.pair (.int IntKind.i32) (.int IntKind.i32))))), (3, (.oad 0 0)), (7, (.ow 1)), (10, (.ow 2)), (11, (.int IntKind.i64)), (12, (.int IntKind.i32)), (44, (.osl 1)), (45, (.int IntKind.i64)), (46, (.int IntKind.i64))], [(3, (.st (.clo 36 .unit))), (7, (.int IntKind.i32)), (10, (.st (.pair (.int IntKind.i32) (.int IntKind.i32))))], []⟩, [((.exit 6), ⟨[(1, (.slice (.st (.pair (.int IntKind.i32) (.int IntKind.i32))))), (2, (.slice (.st (.pair (.int IntKind.i32) (.int IntKind.i32))))), (3, (.oad 0 0)), (7, (.ow 1)), (10, (.ow 2)), (11, (.int IntKind.i64)), (12, (.int IntKind.i32)), (44, (.osl 1)), (45, (.int IntKind.i64)), (46, (.int IntKind.i64))], [(3, (.st (.clo 36 .unit))), (7, (.int IntKind.i32)), (10, (.st (.pair (.int IntKind.i32) (.int IntKind.i32))))], []⟩)]⟩ else if i = 1160017 then some ⟨⟨[], [], []⟩, [(.normal, ⟨[(1, (.slice (.st (.pair (.int IntKind.i32) (.int IntKind.i32))))), (2, (.slice (.st (.pair (.int IntKind.i32) (.int IntKind.i32))))), (3, (.oad 0 0)), (7, (.ow 1)), (10, (.ow 2)), (11, (.int IntKind.i64)), (12, (.int IntKind.i32)), (44, (.osl 1)), (45, (.int IntKind.i64)), (46, (.int IntKind.i64))], [(3, (.st (.clo 36 .unit))), (7, (.int IntKind.i32)), (10, (.st (.pair (.int IntKind.i32) (.int IntKind.i32))))], []⟩), ((.exit 6), ⟨[(1, (.slice (.st (.pair (.int IntKind.i32) (.int IntKind.i32))))), (2, (.slice (.st (.pair (.int IntKind.i32) (.int IntKind.i32))))), (3, (.oad 0 0)), (7, (.ow 1)), (10, (.ow 2)), (11, (.int IntKind.i64)), (12, (.int IntKind.i32)), (44, (.osl 1)), (45, (.int IntKind.i64)), (46, (.int IntKind.i64))], [(3, (.st (.clo 36 .unit))), (7, (.int IntKind.i32)), (10, (.st (.pair (.int IntKind.i32) (.int IntKind.i32))))], []⟩)]⟩ else if i = 1140016 then some ⟨⟨[], [], []⟩, [(.normal, ⟨[(1, (.slice (.st (.pair (.int IntKind.i32) (.int IntKind.i32))))), (2, (.slice (.st (.pair (.int IntKind.i32) (.int IntKind.i32))))), (3, (.oad 0 0)), (7, (.ow 1)), (10, (.ow 2)), (11, (.int IntKind.i64)), (12, (.int IntKind.i32)), (44, (.osl 1)), (45, (.int IntKind.i64)), (46, (.int IntKind.i64))], [(3, (.st (.clo 36 .unit))), (7, (.int IntKind.i32)), (10, (.st (.pair (.int IntKind.i32) (.int IntKind.i32))))], []⟩)]⟩ else if i = 14 then some ⟨⟨[(1, (.slice (.st (.pair (.int IntKind.i32) (.int IntKind.i32))))), (2, (.slice (.st (.pair (.int IntKind.i32) (.int IntKind.i32))))), (3, (.oad 0 0)), (7, (.ow 1)), (10, (.ow 2)), (11, (.int IntKind.i64)), (12, (.int IntKind.i32)), (44, (.osl 1)), (45, (.int IntKind.i64)), (46, (.int IntKind.i64))], [(3, (.st (.clo 36 .unit))), (7, (.int IntKind.i32)), (10, (.st (.pair (.int IntKind.i32) (.int IntKind.i32))))], []⟩, [((.exit 4), ⟨[(1, (.slice (.st (.pair (.int IntKind.i32) (.int IntKind.i32))))), (2, (.slice (.st (.pair (.int IntKind.i32) (.int IntKind.i32))))), (3, (.oad 0 0)), (7, (.ow 1)), (10, (.ow 2)), (11, (.int IntKind.i64)), (12, (.int IntKind.i32)), (44, (.osl 1)), (45, (.int IntKind.i64)), (46, (.int IntKind.i64))], [(3, (.st (.clo 36 .unit))), (7, (.int IntKind.i32)), (10, (.st (.pair (.int IntKind.i32) (.int IntKind.i32))))], []⟩)]⟩ else if i = 1140015 then some ⟨⟨[], [], []⟩, [(.normal, ⟨[(1, (.slice (.st (.pair (.int IntKind.i32) (.int IntKind.i32))))), (2, (.slice (.st (.pair (.int IntKind.i32) (.int IntKind.i32))))), (3, (.oad 0 0)), (7, (.ow 1)), (10, (.ow 2)), (11, (.int IntKind.i64)), (12, (.int IntKind.i32)), (44, (.osl 1)), (45, (.int IntKind.i64)), (46, (.int IntKind.i64))], [(3, (.st (.clo 36 .unit))), (7, (.int IntKind.i32)), (10, (.st (.pair (.int IntKind.i32) (.int IntKind.i32))))], []⟩), ((.exit 4), ⟨[(1, (.slice (.st (.pair (.int IntKind.i32) (.int IntKind.i32))))), (2, (.slice (.st (.pair (.int IntKind.i32) (.int IntKind.i32))))), (3, (.oad 0 0)), (7, (.ow 1)), (10, (.ow 2)), (11, (.int IntKind.i64)), (12, (.int IntKind.i32)), (44, (.osl 1)), (45, (.int IntKind.i64)), (46, (.int IntKind.i64))], [(3, (.st (.clo 36 .unit))), (7, (.int IntKind.i32)), (10, (.st (.pair (.int IntKind.i32) (.int IntKind.i32))))], []⟩)]⟩ else if i = 1030008 then some ⟨⟨[], [], []⟩, [(.normal, ⟨[(1, (.slice (.st (.pair (.int IntKind.i32) (.int IntKind.i32))))), (2, (.slice (.st (.pair (.int IntKind.i32) (.int IntKind.i32))))), (3, (.oad 0 0)), (7, (.ow 1))], [(3, (.st (.clo 36 .unit))), (7, (.int IntKind.i32))], []⟩)]⟩ else if i = 4 then some ⟨⟨[(1, (.slice (.st (.pair (.int IntKind.i32) (.int IntKind.i32))))), (2, (.slice (.st (.pair (.int IntKind.i32) (.int IntKind.i32))))), (3, (.oad 0 0)), (7, (.ow 1)), (21, (.slice (.st (.pair (.int IntKind.i32) (.int IntKind.i32))))), (22, (.int IntKind.i64)), (23, (.int IntKind.i64))], [(3, (.st (.clo 36 .unit))), (7, (.int IntKind.i32))], []⟩, [((.exit 0), ⟨[(1, (.slice (.st (.pair (.int IntKind.i32) (.int IntKind.i32))))), (2, (.slice (.st (.pair (.int IntKind.i32) (.int IntKind.i32))))), (3, (.oad 0 0)), (7, (.ow 1))], [(3, (.st (.clo 36 .unit))), (7, (.int IntKind.i32))], []⟩)]⟩ else none
def runD_g : List (Nat × Ctr) := [(44, sortI_c), (45, compactI_c), (13, rNorm_c), (36, dF_c), (43, concat_c)]
theorem runD_eq (v : PDen runD_c.ps) : semF tbl (gam runD_g) runD_h fuelN 116 (bodyOf Try.f34) runD_c.ps runD_c.rs [6] v = runD_c.g v := by kernel_rfl

/- 34: (trema/rset.sweep).run -/
def runN_s6 (a1 : List (Int × Int)) (a2 : List (Int × Int)) (a3 : Int) (a21 : List (Int × Int)) (a22 : Int) (a23 : Int) (g3 : List Unit) (g7 : List Int) : Option (((List (Int × Int) × (List (Int × Int) × (Int × (List (Int × Int) × (Int × (Int × Unit)))))) × (List Unit × (List Int × Unit))) ⊕ ((List (Int × Int) × (List (Int × Int) × (Int × Unit))) × (List Unit × (List Int × Unit)))) :=
 bif (decide (a23 < a22)) then
 (Option.bind (lk a21 a23) fun x7 =>
 bif (roomOk (g7.length + [x7.1, (IntKind.i32.wrap (x7.2 + (1 : Int)))].length) 4) then
 some (.inl ((a1, (a2, (a3, (a21, (a22, ((IntKind.i64.wrap (a23 + (1 : Int))), ())))))), (g3, ((g7 ++ [x7.1, (IntKind.i32.wrap (x7.2 + (1 : Int)))]), ()))))
 else none)
 else
 some (.inr ((a1, (a2, (a3, ()))), (g3, (g7, ()))))

def runN_s19 (a1 : List (Int × Int)) (a2 : List (Int × Int)) (a3 : Int) (a11 : Int) (a12 : Int) (a44 : (Nat × Nat)) (a45 : Int) (a46 : Int) (g3 : List Unit) (g7 : List Int) (g10 : List (Int × Int)) : Option (((List (Int × Int) × (List (Int × Int) × (Int × (Int × (Int × ((Nat × Nat) × (Int × (Int × Unit)))))))) × (List Unit × (List Int × (List (Int × Int) × Unit)))) ⊕ ((List (Int × Int) × (List (Int × Int) × (Int × (Int × (Int × ((Nat × Nat) × (Int × (Int × Unit)))))))) × (List Unit × (List Int × (List (Int × Int) × Unit))))) :=
 (Option.bind (show Option (((List (Int × Int) × (List (Int × Int) × (Int × (Int × (Int × ((Nat × Nat) × (Int × (Int × Unit)))))))) × (List Unit × (List Int × (List (Int × Int) × Unit)))) ⊕ ((List (Int × Int) × (List (Int × Int) × (Int × (Int × (Int × ((Nat × Nat) × (Int × (Int × Unit)))))))) × (List Unit × (List Int × (List (Int × Int) × Unit))))) from
 bif (decide ((a1.length : Int) > (0 : Int))) then
 (Option.bind (lk a1 (0 : Int)) fun x21 =>
 bif (decide (x21.2 < a12)) then
 some (.inl ((a1, (a2, (a3, (a11, (a12, (a44, (a45, (a46, ())))))))), (g3, (g7, (g10, ())))))
 else
 some (.inr ((a1, (a2, (a3, (a11, (a12, (a44, (a45, (a46, ())))))))), (g3, (g7, (g10, ()))))))
 else
 some (.inr ((a1, (a2, (a3, (a11, (a12, (a44, (a45, (a46, ())))))))), (g3, (g7, (g10, ())))))) fun y22 =>
 (match y22 with
 | .inl y22 =>
 bif (inB (1 : Int) (y22.1.1.length : Int) y22.1.1.length) then
 some (.inl (((cut y22.1.1 (1 : Int) (y22.1.1.length : Int)), (y22.1.2.1, (y22.1.2.2.1, (y22.1.2.2.2.1, (y22.1.2.2.2.2.1, (y22.1.2.2.2.2.2.1, (y22.1.2.2.2.2.2.2.1, (y22.1.2.2.2.2.2.2.2.1, ())))))))), (y22.2.1, (y22.2.2.1, (y22.2.2.2.1, ())))))
 else none
 | .inr y22 =>
 some (.inr ((y22.1.1, (y22.1.2.1, (y22.1.2.2.1, (y22.1.2.2.2.1, (y22.1.2.2.2.2.1, (y22.1.2.2.2.2.2.1, (y22.1.2.2.2.2.2.2.1, (y22.1.2.2.2.2.2.2.2.1, ())))))))), (y22.2.1, (y22.2.2.1, (y22.2.2.2.1, ())))))))

def runN_s27 (a1 : List (Int × Int)) (a2 : List (Int × Int)) (a3 : Int) (a11 : Int) (a12 : Int) (a44 : (Nat × Nat)) (a45 : Int) (a46 : Int) (g3 : List Unit) (g7 : List Int) (g10 : List (Int × Int)) : Option (((List (Int × Int) × (List (Int × Int) × (Int × (Int × (Int × ((Nat × Nat) × (Int × (Int × Unit)))))))) × (List Unit × (List Int × (List (Int × Int) × Unit)))) ⊕ ((List (Int × Int) × (List (Int × Int) × (Int × (Int × (Int × ((Nat × Nat) × (Int × (Int × Unit)))))))) × (List Unit × (List Int × (List (Int × Int) × Unit))))) :=
 (Option.bind (show Option (((List (Int × Int) × (List (Int × Int) × (Int × (Int × (Int × ((Nat × Nat) × (Int × (Int × Unit)))))))) × (List Unit × (List Int × (List (Int × Int) × Unit)))) ⊕ ((List (Int × Int) × (List (Int × Int) × (Int × (Int × (Int × ((Nat × Nat) × (Int × (Int × Unit)))))))) × (List Unit × (List Int × (List (Int × Int) × Unit))))) from
 bif (decide ((a2.length : Int) > (0 : Int))) then
 (Option.bind (lk a2 (0 : Int)) fun x29 =>
 bif (decide (x29.2 < a12)) then
 some (.inl ((a1, (a2, (a3, (a11, (a12, (a44, (a45, (a46, ())))))))), (g3, (g7, (g10, ())))))
 else
 some (.inr ((a1, (a2, (a3, (a11, (a12, (a44, (a45, (a46, ())))))))), (g3, (g7, (g10, ()))))))
 else
 some (.inr ((a1, (a2, (a3, (a11, (a12, (a44, (a45, (a46, ())))))))), (g3, (g7, (g10, ())))))) fun y30 =>
 (match y30 with
 | .inl y30 =>
 bif (inB (1 : Int) (y30.1.2.1.length : Int) y30.1.2.1.length) then
 some (.inl ((y30.1.1, ((cut y30.1.2.1 (1 : Int) (y30.1.2.1.length : Int)), (y30.1.2.2.1, (y30.1.2.2.2.1, (y30.1.2.2.2.2.1, (y30.1.2.2.2.2.2.1, (y30.1.2.2.2.2.2.2.1, (y30.1.2.2.2.2.2.2.2.1, ())))))))), (y30.2.1, (y30.2.2.1, (y30.2.2.2.1, ())))))
 else none
 | .inr y30 =>
 some (.inr ((y30.1.1, (y30.1.2.1, (y30.1.2.2.1, (y30.1.2.2.2.1, (y30.1.2.2.2.2.1, (y30.1.2.2.2.2.2.1, (y30.1.2.2.2.2.2.2.1, (y30.1.2.2.2.2.2.2.2.1, ())))))))), (y30.2.1, (y30.2.2.1, (y30.2.2.2.1, ())))))))

def runN_s15 (a1 : List (Int × Int)) (a2 : List (Int × Int)) (a3 : Int) (a44 : (Nat × Nat)) (a45 : Int) (a46 : Int) (g3 : List Unit) (g7 : List Int) (g10 : List (Int × Int)) : Option (((List (Int × Int) × (List (Int × Int) × (Int × ((Nat × Nat) × (Int × (Int × Unit)))))) × (List Unit × (List Int × (List (Int × Int) × Unit)))) ⊕ (Unit × (List (Int × Int) × Unit))) :=
 bif (decide (a46 < a45)) then
 bif (inR a46 a44.2) then
 (Option.bind (lk g7 (plusI a44.1 a46)) fun x16 =>
 (Option.bind (show Option ((List (Int × Int) × (List (Int × Int) × (Int × (Int × (Int × ((Nat × Nat) × (Int × (Int × Unit)))))))) × (List Unit × (List Int × (List (Int × Int) × Unit)))) from
 (Option.bind (iterN (fun x => runN_s19 x.1.1 x.1.2.1 x.1.2.2.1 x.1.2.2.2.1 x.1.2.2.2.2.1 x.1.2.2.2.2.2.1 x.1.2.2.2.2.2.2.1 x.1.2.2.2.2.2.2.2.1 x.2.1 x.2.2.1 x.2.2.2.1) fuelN ((a1, (a2, (a3, (a46, (x16, (a44, (a45, (a46, ())))))))), (g3, (g7, (g10, ()))))) fun y23 =>
 some ((y23.1.1, (y23.1.2.1, (y23.1.2.2.1, (y23.1.2.2.2.1, (y23.1.2.2.2.2.1, (y23.1.2.2.2.2.2.1, (y23.1.2.2.2.2.2.2.1, (y23.1.2.2.2.2.2.2.2.1, ())))))))), (y23.2.1, (y23.2.2.1, (y23.2.2.2.1, ())))))) fun y24 =>
 (Option.bind (show Option ((List (Int × Int) × (List (Int × Int) × (Int × (Int × (Int × ((Nat × Nat) × (Int × (Int × Unit)))))))) × (List Unit × (List Int × (List (Int × Int) × Unit)))) from
 (Option.bind (iterN (fun x => runN_s27 x.1.1 x.1.2.1 x.1.2.2.1 x.1.2.2.2.1 x.1.2.2.2.2.1 x.1.2.2.2.2.2.1 x.1.2.2.2.2.2.2.1 x.1.2.2.2.2.2.2.2.1 x.2.1 x.2.2.1 x.2.2.2.1) fuelN ((y24.1.1, (y24.1.2.1, (y24.1.2.2.1, (y24.1.2.2.2.1, (y24.1.2.2.2.2.1, (y24.1.2.2.2.2.2.1, (y24.1.2.2.2.2.2.2.1, (y24.1.2.2.2.2.2.2.2.1, ())))))))), (y24.2.1, (y24.2.2.1, (y24.2.2.2.1, ()))))) fun y31 =>
 some ((y31.1.1, (y31.1.2.1, (y31.1.2.2.1, (y31.1.2.2.2.1, (y31.1.2.2.2.2.1, (y31.1.2.2.2.2.2.1, (y31.1.2.2.2.2.2.2.1, (y31.1.2.2.2.2.2.2.2.1, ())))))))), (y31.2.1, (y31.2.2.1, (y31.2.2.2.1, ())))))) fun y32 =>
 (Option.bind (show Option ((List (Int × Int) × (List (Int × Int) × (Int × (Int × (Int × ((Nat × Nat) × (Int × (Int × (Bool × Unit))))))))) × (List Unit × (List Int × (List (Int × Int) × Unit)))) from
 (Option.bind (lk y32.2.1 y32.1.2.2.1) fun x34 =>
 bif (decide ((y32.1.1.length : Int) > (0 : Int))) then
 (Option.bind (lk y32.1.1 (0 : Int)) fun x35 =>
 bif (decide ((y32.1.2.1.length : Int) > (0 : Int))) then
 (Option.bind (lk y32.1.2.1 (0 : Int)) fun x36 =>
 (Option.bind (nF (decide (x35.1 ≤ y32.1.2.2.2.2.1)) (decide (x36.1 ≤ y32.1.2.2.2.2.1))) fun r37 =>
 some ((y32.1.1, (y32.1.2.1, (y32.1.2.2.1, (y32.1.2.2.2.1, (y32.1.2.2.2.2.1, (y32.1.2.2.2.2.2.1, (y32.1.2.2.2.2.2.2.1, (y32.1.2.2.2.2.2.2.2.1, (r37.2.1, ()))))))))), (y32.2.1, (y32.2.2.1, (y32.2.2.2.1, ()))))))
 else
 (Option.bind (nF (decide (x35.1 ≤ y32.1.2.2.2.2.1)) false) fun r38 =>
 some ((y32.1.1, (y32.1.2.1, (y32.1.2.2.1, (y32.1.2.2.2.1, (y32.1.2.2.2.2.1, (y32.1.2.2.2.2.2.1, (y32.1.2.2.2.2.2.2.1, (y32.1.2.2.2.2.2.2.2.1, (r38.2.1, ()))))))))), (y32.2.1, (y32.2.2.1, (y32.2.2.2.1, ()))))))
 else
 bif (decide ((y32.1.2.1.length : Int) > (0 : Int))) then
 (Option.bind (lk y32.1.2.1 (0 : Int)) fun x39 =>
 (Option.bind (nF false (decide (x39.1 ≤ y32.1.2.2.2.2.1))) fun r40 =>
 some ((y32.1.1, (y32.1.2.1, (y32.1.2.2.1, (y32.1.2.2.2.1, (y32.1.2.2.2.2.1, (y32.1.2.2.2.2.2.1, (y32.1.2.2.2.2.2.2.1, (y32.1.2.2.2.2.2.2.2.1, (r40.2.1, ()))))))))), (y32.2.1, (y32.2.2.1, (y32.2.2.2.1, ()))))))
 else
 (Option.bind (nF false false) fun r41 =>
 some ((y32.1.1, (y32.1.2.1, (y32.1.2.2.1, (y32.1.2.2.2.1, (y32.1.2.2.2.2.1, (y32.1.2.2.2.2.2.1, (y32.1.2.2.2.2.2.2.1, (y32.1.2.2.2.2.2.2.2.1, (r41.2.1, ()))))))))), (y32.2.1, (y32.2.2.1, (y32.2.2.2.1, ()))))))) fun y42 =>
 bif y42.1.2.2.2.2.2.2.2.2.1 then
 (Option.bind (lk y42.2.2.1 (IntKind.i64.wrap (y42.1.2.2.2.1 + (1 : Int)))) fun _x43 =>
 (Option.bind (lk y42.2.2.1 (IntKind.i64.wrap (y42.1.2.2.2.1 + (1 : Int)))) fun x44 =>
 bif (roomOk (y42.2.2.2.1.length + [(y42.1.2.2.2.2.1, (IntKind.i32.wrap (x44 - (1 : Int))))].length) 8) then
 let l45 := (y42.2.2.2.1 ++ [(y42.1.2.2.2.2.1, (IntKind.i32.wrap (x44 - (1 : Int))))])
 some (.inl ((y42.1.1, (y42.1.2.1, (y42.1.2.2.1, (y42.1.2.2.2.2.2.1, (y42.1.2.2.2.2.2.2.1, ((IntKind.i64.wrap (y42.1.2.2.2.2.2.2.2.1 + (1 : Int))), ())))))), (y42.2.1, (y42.2.2.1, (l45, ())))))
 else none))
 else
 some (.inl ((y42.1.1, (y42.1.2.1, (y42.1.2.2.1, (y42.1.2.2.2.2.2.1, (y42.1.2.2.2.2.2.2.1, ((IntKind.i64.wrap (y42.1.2.2.2.2.2.2.2.1 + (1 : Int))), ())))))), (y42.2.1, (y42.2.2.1, (y42.2.2.2.1, ())))))))))
 else none
 else
 some (.inr ((), (g10, ())))

def runN (p1 : List (Int × Int)) : Option (Unit × (List (Int × Int) × Unit)) :=
 (Option.bind (rNorm p1) fun r1 =>
 (Option.bind (rNorm ([] : List (Int × Int))) fun r2 =>
 (Option.bind (show Option ((List (Int × Int) × (List (Int × Int) × (Int × Unit))) × (List Unit × (List Int × Unit))) from
 (Option.bind (concat [r1.2.1, r2.2.1]) fun r4 =>
 (Option.bind (iterN (fun x => runN_s6 x.1.1 x.1.2.1 x.1.2.2.1 x.1.2.2.2.1 x.1.2.2.2.2.1 x.1.2.2.2.2.2.1 x.2.1 x.2.2.1) fuelN ((r1.2.1, (r2.2.1, ((0 : Int), (r4.2.1, ((r4.2.1.length : Int), ((0 : Int), ())))))), ([()], ([(0 : Int), (1114112 : Int)], ())))) fun y8 =>
 some ((y8.1.1, (y8.1.2.1, (y8.1.2.2.1, ()))), (y8.2.1, (y8.2.2.1, ())))))) fun y9 =>
 (Option.bind (sortI y9.2.2.1) fun r10 =>
 (Option.bind (compactI r10.1) fun r11 =>
 (Option.bind (show Option (Unit × (List (Int × Int) × Unit)) from
 bif (inB (0 : Int) (IntKind.i64.wrap ((r11.2.1.length : Int) - (1 : Int))) r11.2.1.length) then
 let v13 := ((IntKind.i64.wrap ((r11.2.1.length : Int) - (1 : Int))) - (0 : Int)).toNat
 (Option.bind (iterN (fun x => runN_s15 x.1.1 x.1.2.1 x.1.2.2.1 x.1.2.2.2.1 x.1.2.2.2.2.1 x.1.2.2.2.2.2.1 x.2.1 x.2.2.1 x.2.2.2.1) fuelN ((y9.1.1, (y9.1.2.1, (y9.1.2.2.1, (((0 : Int).toNat, v13), ((v13 : Int), ((0 : Int), ())))))), (y9.2.1, (r11.2.1, (([] : List (Int × Int)), ()))))) fun y46 =>
 some ((), (y46.2.1, ())))
 else none) fun y47 =>
 (Option.bind (rNorm y47.2.1) fun r48 =>
 some ((), (r48.2.1, ())))))))))


def runN_c : Ctr := ⟨[.ro (.st (.clo 37 .unit)), .ro (.slice (.st (.pair (.int IntKind.i32) (.int IntKind.i32)))), .ro .nils], [.val (.slice (.st (.pair (.int IntKind.i32) (.int IntKind.i32))))], fun v => runN v.2.1⟩
def runN_h : Nat → Option LH := fun i => if i = 1110021 then some ⟨⟨[], [], []⟩, [(.normal, ⟨[(10, (.ow 0))], [(10, (.st (.pair (.int IntKind.i32) (.int IntKind.i32))))], []⟩)]⟩ else if i = 12 then some ⟨⟨[(1, (.slice (.st (.pair (.int IntKind.i32) (.int IntKind.i32))))), (2, (.slice (.st (.pair (.int IntKind.i32) (.int IntKind.i32))))), (3, (.oad 0 0)), (7, (.ow 1)), (10, (.ow 2)), (44, (.osl 1)), (45, (.int IntKind.i64)), (46, (.int IntKind.i64))], [(3, (.st (.clo 37 .unit))), (7, (.int IntKind.i32)), (10, (.st (.pair (.int IntKind.i32) (.int IntKind.i32))))], []⟩, [((.exit 2), ⟨[(10, (.ow 0))], [(10, (.st (.pair (.int IntKind.i32) (.int IntKind.i32))))], []⟩)]⟩ else if i = 1180019 then some ⟨⟨[], [], []⟩, [(.normal, ⟨[(1, (.slice (.st (.pair (.int IntKind.i32) (.int IntKind.i32))))), (2, (.slice (.st (.pair (.int IntKind.i32) (.int IntKind.i32))))), (3, (.oad 0 0)), (7, (.ow 1)), (10, (.ow 2)), (11, (.int IntKind.i64)), (12, (.int IntKind.i32)), (44, (.osl 1)), (45, (.int IntKind.i64)), (46, (.int IntKind.i64)), (101, .bool)], [(3, (.st (.clo 37 .unit))), (7, (.int IntKind.i32)), (10, (.st (.pair (.int IntKind.i32) (.int IntKind.i32))))], []⟩)]⟩ else if i = 1160018 then some ⟨⟨[], [], []⟩, [(.normal, ⟨[(1, (.slice (.st (.pair (.int IntKind.i32) (.int IntKind.i32))))), (2, (.slice (.st (.pair (.int IntKind.i32) (.int IntKind.i32))))), (3, (.oad 0 0)), (7, (.ow 1)), (10, (.ow 2)), (11, (.int IntKind.i64)), (12, (.int IntKind.i32)), (44, (.osl 1)), (45, (.int IntKind.i64)), (46, (.int IntKind.i64))], [(3, (.st (.clo 37 .unit))), (7, (.int IntKind.i32)), (10, (.st (.pair (.int IntKind.i32) (.int IntKind.i32))))], []⟩)]⟩ else if i = 16 then some ⟨⟨[(1, (.slice (.st (.pair (.int IntKind.i32) (.int IntKind.i32))))), (2, (.slice (.st (.pair (.int IntKind.i32) (.int IntKind.i32))))), (3, (.oad 0 0)), (7, (.ow 1)), (10, (.ow 2)), (11, (.int IntKind.i64)), (12, (.int IntKind.i32)), (44, (.osl 1)), (45, (.int IntKind.i64)), (46, (.int IntKind.i64))], [(3, (.st (.clo 37 .unit))), (7, (.int IntKind.i32)), (10, (.st (.pair (.int IntKind.i32) (.int IntKind.i32))))], []⟩, [((.exit 6), ⟨[(1, (.slice (.st (.pair (.int IntKind.i32) (.int IntKind.i32))))), (2, (.slice (.st (.pair (.int IntKind.i32) (.int IntKind.i32))))), (3, (.oad 0 0)), (7, (.ow 1)), (10, (.ow 2)), (11, (.int IntKind.i64)), (12, (.int IntKind.i32)), (44, (.osl 1)), (45, (.int IntKind.i64)), (46, (.int IntKind.i64))], [(3, (.st (.clo 37 .unit))), (7, (.int IntKind.i32)), (10, (.st (.pair (.int IntKind.i32) (.int IntKind.i32))))], []⟩)]⟩ else if i = 1160017 then some ⟨⟨[], [], []⟩, [(.normal, ⟨[(1, (.slice (.st (.pair (.int IntKind.i32) (.int IntKind.i32))))), (2, (.slice (.st (.pair (.int IntKind.i32) (.int IntKind.i32))))), (3, (.oad 0 0)), (7, (.ow 1)), (10, (.ow 2)), (11, (.int IntKind.i64)), (12, (.int IntKind.i32)), (44, (.osl 1)), (45, (.int IntKind.i64)), (46, (.int IntKind.i64))], [(3, (.st (.clo 37 .unit))), (7, (.int IntKind.i32)), (10, (.st (.pair (.int IntKind.i32) (.int IntKind.i32))))], []⟩), ((.exit 6), ⟨[(1, (.slice (.st (.pair (.int IntKind.i32) (.int IntKind.i32))))), (2, (.slice (.st (.pair (.int IntKind.i32) (.int IntKind.i32))))), (3, (.oad 0 0)), (7, (.ow 1)), (10, (.ow 2)), (11, (.int IntKind.i64)), (12, (.int IntKind.i32)), (44, (.osl 1)), (45, (.int IntKind.i64)), (46, (.int IntKind.i64))], [(3, (.st (.clo 37 .unit))), (7, (.int IntKind.i32)), (10, (.st (.pair (.int IntKind.i32) (.int IntKind.i32))))], []⟩)]⟩ else if i = 1140016 then some ⟨⟨[], [], []⟩, [(.normal, ⟨[(1, (.slice (.st (.pair (.int IntKind.i32) (.int IntKind.i32))))), (2, (.slice (.st (.pair (.int IntKind.i32) (.int IntKind.i32))))), (3, (.oad 0 0)), (7, (.ow 1)), (10, (.ow 2)), (11, (.int IntKind.i64)), (12, (.int IntKind.i32)), (44, (.osl 1)), (45, (.int IntKind.i64)), (46, (.int IntKind.i64))], [(3, (.st (.clo 37 .unit))), (7, (.int IntKind.i32)), (10, (.st (.pair (.int IntKind.i32) (.int IntKind.i32))))], []⟩)]⟩ else if i = 14 then some ⟨⟨[(1, (.slice (.st (.pair (.int IntKind.i32) (.int IntKind.i32))))), (2, (.slice (.st (.pair (.int IntKind.i32) (.int IntKind.i32))))), (3, (.oad 0 0)), (7, (.ow 1)), (10, (.ow 2)), (11, (.int IntKind.i64)), (12, (.int IntKind.i32)), (44, (.osl 1)), (45, (.int IntKind.i64)), (46, (.int IntKind.i64))], [(3, (.st (.clo 37 .unit))), (7, (.int IntKind.i32)), (10, (.st (.pair (.int IntKind.i32) (.int IntKind.i32))))], []⟩, [((.exit 4), ⟨[(1, (.slice (.st (.pair (.int IntKind.i32) (.int IntKind.i32))))), (2, (.slice (.st (.pair (.int IntKind.i32) (.int IntKind.i32))))), (3, (.oad 0 0)), (7, (.ow 1)), (10, (.ow 2)), (11, (.int IntKind.i64)), (12, (.int IntKind.i32)), (44, (.osl 1)), (45, (.int IntKind.i64)), (46, (.int IntKind.i64))], [(3, (.st (.clo 37 .unit))), (7, (.int IntKind.i32)), (10, (.st (.pair (.int IntKind.i32) (.int IntKind.i32))))], []⟩)]⟩ else if i = 1140015 then some ⟨⟨[], [], []⟩, [(.normal, ⟨[(1, (.slice (.st (.pair (.int IntKind.i32) (.int IntKind.i32))))), (2, (.slice (.st (.pair (.int IntKind.i32) (.int IntKind.i32))))), (3, (.oad 0 0)), (7, (.ow 1)), (10, (.ow 2)), (11, (.int IntKind.i64)), (12, (.int IntKind.i32)), (44, (.osl 1)), (45, (.int IntKind.i64)), (46, (.int IntKind.i64))], [(3, (.st (.clo 37 .unit))), (7, (.int IntKind.i32)), (10, (.st (.pair (.int IntKind.i32) (.int IntKind.i32))))], []⟩), ((.exit 4), ⟨[(1, (.slice (.st (.pair (.int IntKind.i32) (.int IntKind.i32))))), (2, (.slice (.st (.pair (.int IntKind.i32) (.int IntKind.i32))))), (3, (.oad 0 0)), (7, (.ow 1)), (10, (.ow 2)), (11, (.int IntKind.i64)), (12, (.int IntKind.i32)), (44, (.osl 1)), (45, (.int IntKind.i64)), (46, (.int IntKind.i64))], [(3, (.st (.clo 37 .unit))), (7, (.int IntKind.i32)), (10, (.st (.pair (.int IntKind.i32) (.int IntKind.i32))))], []⟩)]⟩ else if i = 1030008 then some ⟨⟨[], [], []⟩, [(.normal, ⟨[(1, (.slice (.st (.pair (.int IntKind.i32) (.int IntKind.i32))))), (2, (.slice (.st (.pair (.int IntKind.i32) (.int IntKind.i32))))), (3, (.oad 0 0)), (7, (.ow 1))], [(3, (.st (.clo 37 .unit))), (7, (.int IntKind.i32))], []⟩)]⟩ else if i = 4 then some ⟨⟨[(1, (.slice (.st (.pair (.int IntKind.i32) (.int IntKind.i32))))), (2, (.slice (.st (.pair (.int IntKind.i32) (.int IntKind.i32))))), (3, (.oad 0 0)), (7, (.ow 1)), (21, (.slice (.st (.pair (.int IntKind.i32) (.int IntKind.i32))))), (22, (.int IntKind.i64)), (23, (.int IntKind.i64))], [(3, (.st (.clo 37 .unit))), (7, (.int IntKind.i32))], []⟩, [((.exit 0), ⟨[(1, (.slice (.st (.pair (.int IntKind.i32) (.int IntKind.i32))))), (2, (.slice (.st (.pair (.int IntKind.i32) (.int IntKind.i32))))), (3, (.oad 0 0)), (7, (.ow 1))], [(3, (.st (.clo 37 .unit))), (7, (.int IntKind.i32))], []⟩)]⟩ else none
def runN_g : List (Nat × Ctr) := [(44, sortI_c), (45, compactI_c), (13, rNorm_c), (37, nF_c), (43, concat_c)]
theorem runN_eq (v : PDen runN_c.ps) : semF tbl (gam runN_g) runN_h fuelN 116 (bodyOf Try.f34) runN_c.ps runN_c.rs [6] v = runN_c.g v := by kernel_rfl

/- 17: trema/rset.Union -/
def rUnion (p0 : List (Int × Int)) (p1 : List (Int × Int)) : Option (Unit × (List (Int × Int) × Unit)) :=
 (Option.bind (runU p0 p1) fun r1 =>
 some ((), (r1.2.1, ())))


def rUnion_c : Ctr := ⟨[.ro (.slice (.st (.pair (.int IntKind.i32) (.int IntKind.i32)))), .ro (.slice (.st (.pair (.int IntKind.i32) (.int IntKind.i32))))], [.val (.slice (.st (.pair (.int IntKind.i32) (.int IntKind.i32))))], fun v => rUnion v.1 v.2.1⟩
def rUnion_h : Nat → Option LH := fun i => none
def rUnion_g : List (Nat × Ctr) := [(34, runU_c), (34, runM_c), (34, runD_c), (34, runN_c)]
theorem rUnion_eq (v : PDen rUnion_c.ps) : semF tbl (gam rUnion_g) rUnion_h fuelN 9 (bodyOf Try.f17) rUnion_c.ps rUnion_c.rs [4] v = rUnion_c.g v := by kernel_rfl

/- 19: trema/rset.Meet -/
def rMeet (p0 : List (Int × Int)) (p1 : List (Int × Int)) : Option (Unit × (List (Int × Int) × Unit)) :=
 (Option.bind (runM p0 p1) fun r1 =>
 some ((), (r1.2.1, ())))


def rMeet_c : Ctr := ⟨[.ro (.slice (.st (.pair (.int IntKind.i32) (.int IntKind.i32)))), .ro (.slice (.st (.pair (.int IntKind.i32) (.int IntKind.i32))))], [.val (.slice (.st (.pair (.int IntKind.i32) (.int IntKind.i32))))], fun v => rMeet v.1 v.2.1⟩
def rMeet_h : Nat → Option LH := fun i => none
def rMeet_g : List (Nat × Ctr) := [(34, runU_c), (34, runM_c), (34, runD_c), (34, runN_c)]
theorem rMeet_eq (v : PDen rMeet_c.ps) : semF tbl (gam rMeet_g) rMeet_h fuelN 9 (bodyOf Try.f19) rMeet_c.ps rMeet_c.rs [4] v = rMeet_c.g v := by kernel_rfl

/- 21: trema/rset.Minus -/
def rMinus (p0 : List (Int × Int)) (p1 : List (Int × Int)) : Option (Unit × (List (Int × Int) × Unit)) :=
 (Option.bind (runD p0 p1) fun r1 =>
 some ((), (r1.2.1, ())))


def rMinus_c : Ctr := ⟨[.ro (.slice (.st (.pair (.int IntKind.i32) (.int IntKind.i32)))), .ro (.slice (.st (.pair (.int IntKind.i32) (.int IntKind.i32))))], [.val (.slice (.st (.pair (.int IntKind.i32) (.int IntKind.i32))))], fun v => rMinus v.1 v.2.1⟩
def rMinus_h : Nat → Option LH := fun i => none
def rMinus_g : List (Nat × Ctr) := [(34, runU_c), (34, runM_c), (34, runD_c), (34, runN_c)]
theorem rMinus_eq (v : PDen rMinus_c.ps) : semF tbl (gam rMinus_g) rMinus_h fuelN 9 (bodyOf Try.f21) rMinus_c.ps rMinus_c.rs [4] v = rMinus_c.g v := by kernel_rfl

/- 23: trema/rset.Not -/
def rNot (p0 : List (Int × Int)) : Option (Unit × (List (Int × Int) × Unit)) :=
 (Option.bind (runN p0) fun r1 =>
 some ((), (r1.2.1, ())))


def rNot_c : Ctr := ⟨[.ro (.slice (.st (.pair (.int IntKind.i32) (.int IntKind.i32))))], [.val (.slice (.st (.pair (.int IntKind.i32) (.int IntKind.i32))))], fun v => rNot v.1⟩
def rNot_h : Nat → Option LH := fun i => none
def rNot_g : List (Nat × Ctr) := [(34, runU_c), (34, runM_c), (34, runD_c), (34, runN_c)]
theorem rNot_eq (v : PDen rNot_c.ps) : semF tbl (gam rNot_g) rNot_h fuelN 6 (bodyOf Try.f23) rNot_c.ps rNot_c.rs [2] v = rNot_c.g v := by kernel_rfl

/- 18: trema/tremaref05.Union -/
def refUnion_s3 (a0 : List (Int × Int)) (a1 : List (Int × Int)) (a6 : Int) (g5 : List (Int × Int)) : Option (((List (Int × Int) × (List (Int × Int) × (Int × Unit))) × (List (Int × Int) × Unit)) ⊕ ((List (Int × Int) × Unit) × (List (Int × Int) × Unit))) :=
 (Option.bind (show Option (((List (Int × Int) × (List (Int × Int) × (Int × Unit))) × (List (Int × Int) × Unit)) ⊕ ((List (Int × Int) × Unit) × (List (Int × Int) × Unit))) from
 bif (decide (a6 < (a0.length : Int))) then
 some (.inl ((a0, (a1, (a6, ()))), (g5, ())))
 else
 some (.inr ((a1, ()), (g5, ())))) fun y5 =>
 (match y5 with
 | .inl y5 =>
 (Option.bind (show Option ((List (Int × Int) × (List (Int × Int) × (Int × Unit))) × (List (Int × Int) × Unit)) from
 (Option.bind (lk y5.1.1 y5.1.2.2.1) fun x7 =>
 bif (roomOk (y5.2.1.length + [x7].length) 8) then
 some ((y5.1.1, (y5.1.2.1, (y5.1.2.2.1, ()))), ((y5.2.1 ++ [x7]), ()))
 else none)) fun y8 =>
 some (.inl ((y8.1.1, (y8.1.2.1, ((IntKind.i64.wrap (y8.1.2.2.1 + (1 : Int))), ()))), (y8.2.1, ()))))
 | .inr y5 =>
 some (.inr ((y5.1.1, ()), (y5.2.1, ())))))

def refUnion_s13 (a1 : List (Int × Int)) (a7 : Int) (g5 : List (Int × Int)) : Option (((List (Int × Int) × (Int × Unit)) × (List (Int × Int) × Unit)) ⊕ (Unit × (List (Int × Int) × Unit))) :=
 (Option.bind (show Option (((List (Int × Int) × (Int × Unit)) × (List (Int × Int) × Unit)) ⊕ (Unit × (List (Int × Int) × Unit))) from
 bif (decide (a7 < (a1.length : Int))) then
 some (.inl ((a1, (a7, ())), (g5, ())))
 else
 some (.inr ((), (g5, ())))) fun y15 =>
 (match y15 with
 | .inl y15 =>
 (Option.bind (show Option ((List (Int × Int) × (Int × Unit)) × (List (Int × Int) × Unit)) from
 (Option.bind (lk y15.1.1 y15.1.2.1) fun x17 =>
 bif (roomOk (y15.2.1.length + [x17].length) 8) then
 some ((y15.1.1, (y15.1.2.1, ())), ((y15.2.1 ++ [x17]), ()))
 else none)) fun y18 =>
 some (.inl ((y18.1.1, ((IntKind.i64.wrap (y18.1.2.1 + (1 : Int))), ())), (y18.2.1, ()))))
 | .inr y15 =>
 some (.inr ((), (y15.2.1, ())))))

def refUnion (p0 : List (Int × Int)) (p1 : List (Int × Int)) : Option (Unit × (List (Int × Int) × Unit)) :=
 (Option.bind (show Option ((List (Int × Int) × Unit) × (List (Int × Int) × Unit)) from
 (Option.bind (iterN (fun x => refUnion_s3 x.1.1 x.1.2.1 x.1.2.2.1 x.2.1) fuelN ((p0, (p1, ((0 : Int), ()))), (([] : List (Int × Int)), ()))) fun y9 =>
 some ((y9.1.1, ()), (y9.2.1, ())))) fun y10 =>
 (Option.bind (show Option (Unit × (List (Int × Int) × Unit)) from
 (Option.bind (iterN (fun x => refUnion_s13 x.1.1 x.1.2.1 x.2.1) fuelN ((y10.1.1, ((0 : Int), ())), (y10.2.1, ()))) fun y19 =>
 some ((), (y19.2.1, ())))) fun y20 =>
 (Option.bind (refNorm y20.2.1) fun r21 =>
 some ((), (r21.2.1, ())))))


def refUnion_c : Ctr := ⟨[.ro (.slice (.st (.pair (.int IntKind.i32) (.int IntKind.i32)))), .ro (.slice (.st (.pair (.int IntKind.i32) (.int IntKind.i32))))], [.val (.slice (.st (.pair (.int IntKind.i32) (.int IntKind.i32))))], fun v => refUnion v.1 v.2.1⟩
def refUnion_h : Nat → Option LH := fun i => if i = 1060010 then some ⟨⟨[], [], []⟩, [(.normal, ⟨[(5, (.ow 0))], [(5, (.st (.pair (.int IntKind.i32) (.int IntKind.i32))))], []⟩)]⟩ else if i = 7 then some ⟨⟨[(1, (.slice (.st (.pair (.int IntKind.i32) (.int IntKind.i32))))), (5, (.ow 0)), (7, (.int IntKind.i64))], [(5, (.st (.pair (.int IntKind.i32) (.int IntKind.i32))))], []⟩, [((.exit 2), ⟨[(5, (.ow 0))], [(5, (.st (.pair (.int IntKind.i32) (.int IntKind.i32))))], []⟩)]⟩ else if i = 1090008 then some ⟨⟨[], [], []⟩, [(.normal, ⟨[(1, (.slice (.st (.pair (.int IntKind.i32) (.int IntKind.i32))))), (5, (.ow 0)), (7, (.int IntKind.i64))], [(5, (.st (.pair (.int IntKind.i32) (.int IntKind.i32))))], []⟩)]⟩ else if i = 1070009 then some ⟨⟨[], [], []⟩, [(.normal, ⟨[(1, (.slice (.st (.pair (.int IntKind.i32) (.int IntKind.i32))))), (5, (.ow 0)), (7, (.int IntKind.i64))], [(5, (.st (.pair (.int IntKind.i32) (.int IntKind.i32))))], []⟩), ((.exit 2), ⟨[(5, (.ow 0))], [(5, (.st (.pair (.int IntKind.i32) (.int IntKind.i32))))], []⟩)]⟩ else if i = 1020006 then some ⟨⟨[], [], []⟩, [(.normal, ⟨[(1, (.slice (.st (.pair (.int IntKind.i32) (.int IntKind.i32))))), (5, (.ow 0))], [(5, (.st (.pair (.int IntKind.i32) (.int IntKind.i32))))], []⟩)]⟩ else if i = 3 then some ⟨⟨[(0, (.slice (.st (.pair (.int IntKind.i32) (.int IntKind.i32))))), (1, (.slice (.st (.pair (.int IntKind.i32) (.int IntKind.i32))))), (5, (.ow 0)), (6, (.int IntKind.i64))], [(5, (.st (.pair (.int IntKind.i32) (.int IntKind.i32))))], []⟩, [((.exit 0), ⟨[(1, (.slice (.st (.pair (.int IntKind.i32) (.int IntKind.i32))))), (5, (.ow 0))], [(5, (.st (.pair (.int IntKind.i32) (.int IntKind.i32))))], []⟩)]⟩ else if i = 1050004 then some ⟨⟨[], [], []⟩, [(.normal, ⟨[(0, (.slice (.st (.pair (.int IntKind.i32) (.int IntKind.i32))))), (1, (.slice (.st (.pair (.int IntKind.i32) (.int IntKind.i32))))), (5, (.ow 0)), (6, (.int IntKind.i64))], [(5, (.st (.pair (.int IntKind.i32) (.int IntKind.i32))))], []⟩)]⟩ else if i = 1030005 then some ⟨⟨[], [], []⟩, [(.normal, ⟨[(0, (.slice (.st (.pair (.int IntKind.i32) (.int IntKind.i32))))), (1, (.slice (.st (.pair (.int IntKind.i32) (.int IntKind.i32))))), (5, (.ow 0)), (6, (.int IntKind.i64))], [(5, (.st (.pair (.int IntKind.i32) (.int IntKind.i32))))], []⟩), ((.exit 0), ⟨[(1, (.slice (.st (.pair (.int IntKind.i32) (.int IntKind.i32))))), (5, (.ow 0))], [(5, (.st (.pair (.int IntKind.i32) (.int IntKind.i32))))], []⟩)]⟩ else none
def refUnion_g : List (Nat × Ctr) := [(11, refNorm_c)]
theorem refUnion_eq (v : PDen refUnion_c.ps) : semF tbl (gam refUnion_g) refUnion_h fuelN 36 (bodyOf Try.f18) refUnion_c.ps refUnion_c.rs [4] v = refUnion_c.g v := by kernel_rfl

/- 24: trema/tremaref05.Not -/
def refNot_s4 (a3 : List (Int × Int)) (a5 : Int) (a6 : Int) (g4 : List (Int × Int)) : Option (((List (Int × Int) × (Int × (Int × Unit))) × (List (Int × Int) × Unit)) ⊕ ((Int × Unit) × (List (Int × Int) × Unit))) :=
 (Option.bind (show Option (((List (Int × Int) × (Int × (Int × Unit))) × (List (Int × Int) × Unit)) ⊕ ((Int × Unit) × (List (Int × Int) × Unit))) from
 bif (decide (a6 < (a3.length : Int))) then
 some (.inl ((a3, (a5, (a6, ()))), (g4, ())))
 else
 some (.inr ((a5, ()), (g4, ())))) fun y6 =>
 (match y6 with
 | .inl y6 =>
 (Option.bind (show Option ((List (Int × Int) × (Int × (Int × Unit))) × (List (Int × Int) × Unit)) from
 (Option.bind (show Option ((List (Int × Int) × (Int × Unit)) × (List (Int × Int) × Unit)) from
 (Option.bind (lk y6.1.1 y6.1.2.2.1) fun x9 =>
 bif (decide (x9.1 > y6.1.2.1)) then
 (Option.bind (lk y6.1.1 y6.1.2.2.1) fun x10 =>
 bif (roomOk (y6.2.1.length + [(y6.1.2.1, (IntKind.i32.wrap (x10.1 - (1 : Int))))].length) 8) then
 let l11 := (y6.2.1 ++ [(y6.1.2.1, (IntKind.i32.wrap (x10.1 - (1 : Int))))])
 some ((y6.1.1, (y6.1.2.2.1, ())), (l11, ()))
 else none)
 else
 some ((y6.1.1, (y6.1.2.2.1, ())), (y6.2.1, ())))) fun y12 =>
 (Option.bind (lk y12.1.1 y12.1.2.1) fun x13 =>
 some ((y12.1.1, ((IntKind.i32.wrap (x13.2 + (1 : Int))), (y12.1.2.1, ()))), (y12.2.1, ()))))) fun y14 =>
 some (.inl ((y14.1.1, (y14.1.2.1, ((IntKind.i64.wrap (y14.1.2.2.1 + (1 : Int))), ()))), (y14.2.1, ()))))
 | .inr y6 =>
 some (.inr ((y6.1.1, ()), (y6.2.1, ())))))

def refNot (p0 : List (Int × Int)) : Option (Unit × (List (Int × Int) × Unit)) :=
 (Option.bind (refNorm p0) fun r1 =>
 (Option.bind (show Option ((Int × Unit) × (List (Int × Int) × Unit)) from
 (Option.bind (iterN (fun x => refNot_s4 x.1.1 x.1.2.1 x.1.2.2.1 x.2.1) fuelN ((r1.2.1, ((0 : Int), ((0 : Int), ()))), (([] : List (Int × Int)), ()))) fun y15 =>
 some ((y15.1.1, ()), (y15.2.1, ())))) fun y16 =>
 bif (decide (y16.1.1 ≤ (1114111 : Int))) then
 bif (roomOk (y16.2.1.length + [(y16.1.1, (1114111 : Int))].length) 8) then
 some ((), ((y16.2.1 ++ [(y16.1.1, (1114111 : Int))]), ()))
 else none
 else
 some ((), (y16.2.1, ()))))


def refNot_c : Ctr := ⟨[.ro (.slice (.st (.pair (.int IntKind.i32) (.int IntKind.i32))))], [.val (.slice (.st (.pair (.int IntKind.i32) (.int IntKind.i32))))], fun v => refNot v.1⟩
def refNot_h : Nat → Option LH := fun i => if i = 1040010 then some ⟨⟨[], [], []⟩, [(.normal, ⟨[(4, (.ow 0)), (5, (.int IntKind.i32))], [(4, (.st (.pair (.int IntKind.i32) (.int IntKind.i32))))], []⟩)]⟩ else if i = 5 then some ⟨⟨[(3, (.slice (.st (.pair (.int IntKind.i32) (.int IntKind.i32))))), (4, (.ow 0)), (5, (.int IntKind.i32)), (6, (.int IntKind.i64))], [(4, (.st (.pair (.int IntKind.i32) (.int IntKind.i32))))], []⟩, [((.exit 0), ⟨[(4, (.ow 0)), (5, (.int IntKind.i32))], [(4, (.st (.pair (.int IntKind.i32) (.int IntKind.i32))))], []⟩)]⟩ else if i = 1070006 then some ⟨⟨[], [], []⟩, [(.normal, ⟨[(3, (.slice (.st (.pair (.int IntKind.i32) (.int IntKind.i32))))), (4, (.ow 0)), (5, (.int IntKind.i32)), (6, (.int IntKind.i64))], [(4, (.st (.pair (.int IntKind.i32) (.int IntKind.i32))))], []⟩)]⟩ else if i = 1070009 then some ⟨⟨[], [], []⟩, [(.normal, ⟨[(3, (.slice (.st (.pair (.int IntKind.i32) (.int IntKind.i32))))), (4, (.ow 0)), (6, (.int IntKind.i64))], [(4, (.st (.pair (.int IntKind.i32) (.int IntKind.i32))))], []⟩)]⟩ else if i = 1050007 then some ⟨⟨[], [], []⟩, [(.normal, ⟨[(3, (.slice (.st (.pair (.int IntKind.i32) (.int IntKind.i32))))), (4, (.ow 0)), (5, (.int IntKind.i32)), (6, (.int IntKind.i64))], [(4, (.st (.pair (.int IntKind.i32) (.int IntKind.i32))))], []⟩), ((.exit 0), ⟨[(4, (.ow 0)), (5, (.int IntKind.i32))], [(4, (.st (.pair (.int IntKind.i32) (.int IntKind.i32))))], []⟩)]⟩ else none
def refNot_g : List (Nat × Ctr) := [(11, refNorm_c)]
theorem refNot_eq (v : PDen refNot_c.ps) : semF tbl (gam refNot_g) refNot_h fuelN 47 (bodyOf Try.f24) refNot_c.ps refNot_c.rs [2] v = refNot_c.g v := by kernel_rfl

/- 20: trema/tremaref05.Meet -/
def refMeet (p0 : List (Int × Int)) (p1 : List (Int × Int)) : Option (Unit × (List (Int × Int) × Unit)) :=
 (Option.bind (refNot p0) fun r1 =>
 (Option.bind (refNot p1) fun r2 =>
 (Option.bind (refUnion r1.2.1 r2.2.1) fun r3 =>
 (Option.bind (refNot r3.2.1) fun r4 =>
 some ((), (r4.2.1, ()))))))


def refMeet_c : Ctr := ⟨[.ro (.slice (.st (.pair (.int IntKind.i32) (.int IntKind.i32)))), .ro (.slice (.st (.pair (.int IntKind.i32) (.int IntKind.i32))))], [.val (.slice (.st (.pair (.int IntKind.i32) (.int IntKind.i32))))], fun v => refMeet v.1 v.2.1⟩
def refMeet_h : Nat → Option LH := fun i => none
def refMeet_g : List (Nat × Ctr) := [(18, refUnion_c), (24, refNot_c)]
theorem refMeet_eq (v : PDen refMeet_c.ps) : semF tbl (gam refMeet_g) refMeet_h fuelN 11 (bodyOf Try.f20) refMeet_c.ps refMeet_c.rs [4] v = refMeet_c.g v := by kernel_rfl

/- 22: trema/tremaref05.Minus -/
def refMinus (p0 : List (Int × Int)) (p1 : List (Int × Int)) : Option (Unit × (List (Int × Int) × Unit)) :=
 (Option.bind (refNot p1) fun r1 =>
 (Option.bind (refMeet p0 r1.2.1) fun r2 =>
 some ((), (r2.2.1, ()))))


def refMinus_c : Ctr := ⟨[.ro (.slice (.st (.pair (.int IntKind.i32) (.int IntKind.i32)))), .ro (.slice (.st (.pair (.int IntKind.i32) (.int IntKind.i32))))], [.val (.slice (.st (.pair (.int IntKind.i32) (.int IntKind.i32))))], fun v => refMinus v.1 v.2.1⟩
def refMinus_h : Nat → Option LH := fun i => none
def refMinus_g : List (Nat × Ctr) := [(24, refNot_c), (20, refMeet_c)]
theorem refMinus_eq (v : PDen refMinus_c.ps) : semF tbl (gam refMinus_g) refMinus_h fuelN 9 (bodyOf Try.f22) refMinus_c.ps refMinus_c.rs [4] v = refMinus_c.g v := by kernel_rfl

/- 25: trema/tremaref05.Has -/
def refHas_s2 (a0 : List (Int × Int)) (a1 : Int) (a5 : Int) : Option (((List (Int × Int) × (Int × (Int × Unit))) × Unit) ⊕ (((Bool × Unit) × Unit) ⊕ (Unit × Unit))) :=
 (Option.bind (show Option (((List (Int × Int) × (Int × (Int × Unit))) × Unit) ⊕ (Unit × Unit)) from
 bif (decide (a5 < (a0.length : Int))) then
 some (.inl ((a0, (a1, (a5, ()))), ()))
 else
 some (.inr ((), ()))) fun y4 =>
 (match y4 with
 | .inl y4 =>
 (Option.bind (show Option (((Bool × Unit) × Unit) ⊕ ((List (Int × Int) × (Int × (Int × Unit))) × Unit)) from
 bif (decide (y4.1.2.1 ≥ (0 : Int))) then
 bif (decide (y4.1.2.1 ≤ (1114111 : Int))) then
 (Option.bind (lk y4.1.1 y4.1.2.2.1) fun x6 =>
 bif (decide (x6.1 ≤ y4.1.2.1)) then
 (Option.bind (lk y4.1.1 y4.1.2.2.1) fun x7 =>
 bif (decide (y4.1.2.1 ≤ x7.2)) then
 some (.inl ((true, ()), ()))
 else
 some (.inr ((y4.1.1, (y4.1.2.1, (y4.1.2.2.1, ()))), ())))
 else
 some (.inr ((y4.1.1, (y4.1.2.1, (y4.1.2.2.1, ()))), ())))
 else
 some (.inr ((y4.1.1, (y4.1.2.1, (y4.1.2.2.1, ()))), ()))
 else
 some (.inr ((y4.1.1, (y4.1.2.1, (y4.1.2.2.1, ()))), ()))) fun y8 =>
 (match y8 with
 | .inl y8 =>
 some (.inr (.inl ((y8.1.1, ()), ())))
 | .inr y8 =>
 some (.inl ((y8.1.1, (y8.1.2.1, ((IntKind.i64.wrap (y8.1.2.2.1 + (1 : Int))), ()))), ()))))
 | .inr y4 =>
 some (.inr (.inr ((), ())))))

def refHas (p0 : List (Int × Int)) (p1 : Int) : Option (Unit × (Bool × Unit)) :=
 (Option.bind (iterN (fun x => refHas_s2 x.1.1 x.1.2.1 x.1.2.2.1) fuelN ((p0, (p1, ((0 : Int), ()))), ())) fun y9 =>
 (match y9 with
 | .inl y9 =>
 some ((), (y9.1.1, ()))
 | .inr y9 =>
 some ((), (false, ()))))


def refHas_c : Ctr := ⟨[.ro (.slice (.st (.pair (.int IntKind.i32) (.int IntKind.i32)))), .ro (.int IntKind.i32)], [.val .bool], fun v => refHas v.1 v.2.1⟩
def refHas_h : Nat → Option LH := fun i => if i = 2 then some ⟨⟨[(0, (.slice (.st (.pair (.int IntKind.i32) (.int IntKind.i32))))), (1, (.int IntKind.i32)), (5, (.int IntKind.i64))], [], []⟩, [(.ret, ⟨[(4, .bool)], [], []⟩), ((.exit 0), ⟨[], [], []⟩)]⟩ else if i = 1040003 then some ⟨⟨[], [], []⟩, [(.ret, ⟨[(4, .bool)], [], []⟩), (.normal, ⟨[(0, (.slice (.st (.pair (.int IntKind.i32) (.int IntKind.i32))))), (1, (.int IntKind.i32)), (5, (.int IntKind.i64))], [], []⟩)]⟩ else if i = 1020004 then some ⟨⟨[], [], []⟩, [(.normal, ⟨[(0, (.slice (.st (.pair (.int IntKind.i32) (.int IntKind.i32))))), (1, (.int IntKind.i32)), (5, (.int IntKind.i64))], [], []⟩), ((.exit 0), ⟨[], [], []⟩)]⟩ else none
def refHas_g : List (Nat × Ctr) := []
theorem refHas_eq (v : PDen refHas_c.ps) : semF tbl (gam refHas_g) refHas_h fuelN 36 (bodyOf Try.f25) refHas_c.ps refHas_c.rs [4] v = refHas_c.g v := by kernel_rfl

/- 39: trema/rset.Has$1 -/
def hasF (p0 : (Int × Int)) (p1 : Int) : Option (Unit × (Bool × Unit)) :=
 bif (decide (p0.1 ≤ p1)) then
 some ((), ((decide (p1 ≤ p0.2)), ()))
 else
 some ((), (false, ()))


def hasF_c : Ctr := ⟨[.ro (.st (.pair (.int IntKind.i32) (.int IntKind.i32))), .ro (.rad (.int IntKind.i32) 0)], [.val .bool], fun v => hasF v.1 v.2.1⟩
def hasF_h : Nat → Option LH := fun i => none
def hasF_g : List (Nat × Ctr) := []
theorem hasF_eq (v : PDen hasF_c.ps) : semF tbl (gam hasF_g) hasF_h fuelN 14 (bodyOf Try.f39) hasF_c.ps hasF_c.rs [3] v = hasF_c.g v := by kernel_rfl

/- 46: slices.IndexFunc[[]trema/api.Range,trema/api.Range] -/
def indexFunc_s2 (a0 : List (Int × Int)) (a1 : (Int × Unit)) (a7 : Int) (a8 : Int) : Option (((List (Int × Int) × ((Int × Unit) × (Int × (Int × Unit)))) × Unit) ⊕ (((Int × Unit) × Unit) ⊕ (Unit × Unit))) :=
 bif (decide (a8 < a7)) then
 (Option.bind (lk a0 a8) fun x3 =>
 (Option.bind (hasF x3 a1.1) fun r4 =>
 bif r4.2.1 then
 some (.inr (.inl ((a8, ()), ())))
 else
 some (.inl ((a0, (a1, (a7, ((IntKind.i64.wrap (a8 + (1 : Int))), ())))), ()))))
 else
 some (.inr (.inr ((), ())))

def indexFunc (p0 : List (Int × Int)) (p1 : (Int × Unit)) : Option (Unit × (Int × Unit)) :=
 (Option.bind (iterN (fun x => indexFunc_s2 x.1.1 x.1.2.1 x.1.2.2.1 x.1.2.2.2.1) fuelN ((p0, (p1, ((p0.length : Int), ((0 : Int), ())))), ())) fun y5 =>
 (match y5 with
 | .inl y5 =>
 some ((), (y5.1.1, ()))
 | .inr y5 =>
 some ((), ((-1 : Int), ()))))


def indexFunc_c : Ctr := ⟨[.ro (.slice (.st (.pair (.int IntKind.i32) (.int IntKind.i32)))), .ro (.clo 39 (.pair (.rad (.int IntKind.i32) 0) .unit))], [.val (.int IntKind.i64)], fun v => indexFunc v.1 v.2.1⟩
def indexFunc_h : Nat → Option LH := fun i => if i = 2 then some ⟨⟨[(0, (.slice (.st (.pair (.int IntKind.i32) (.int IntKind.i32))))), (1, (.clo 39 (.pair (.rad (.int IntKind.i32) 0) .unit))), (7, (.int IntKind.i64)), (8, (.int IntKind.i64))], [], []⟩, [(.ret, ⟨[(4, (.int IntKind.i64))], [], []⟩), ((.exit 0), ⟨[], [], []⟩)]⟩ else none
def indexFunc_g : List (Nat × Ctr) := [(39, hasF_c)]
theorem indexFunc_eq (v : PDen indexFunc_c.ps) : semF tbl (gam indexFunc_g) indexFunc_h fuelN 19 (bodyOf Try.f46) indexFunc_c.ps indexFunc_c.rs [4] v = indexFunc_c.g v := by kernel_rfl

/- 38: slices.ContainsFunc[[]trema/api.Range,trema/api.Range] -/
def containsFunc (p0 : List (Int × Int)) (p1 : (Int × Unit)) : Option (Unit × (Bool × Unit)) :=
 (Option.bind (indexFunc p0 p1) fun r1 =>
 some ((), ((decide (r1.2.1 ≥ (0 : Int))), ())))


def containsFunc_c : Ctr := ⟨[.ro (.slice (.st (.pair (.int IntKind.i32) (.int IntKind.i32)))), .ro (.clo 39 (.pair (.rad (.int IntKind.i32) 0) .unit))], [.val .bool], fun v => containsFunc v.1 v.2.1⟩
def containsFunc_h : Nat → Option LH := fun i => none
def containsFunc_g : List (Nat × Ctr) := [(46, indexFunc_c)]
theorem containsFunc_eq (v : PDen containsFunc_c.ps) : semF tbl (gam containsFunc_g) containsFunc_h fuelN 9 (bodyOf Try.f38) containsFunc_c.ps containsFunc_c.rs [4] v = containsFunc_c.g v := by kernel_rfl

/- 26: trema/rset.Has -/
def rHas (p0 : List (Int × Int)) (p1 : Int) : Option (Unit × (Bool × Unit)) :=
 bif (decide (p1 ≥ (0 : Int))) then
 bif (decide (p1 ≤ (1114111 : Int))) then
 (Option.bind (containsFunc p0 (p1, ())) fun r1 =>
 some ((), (r1.2.1, ())))
 else
 some ((), (false, ()))
 else
 some ((), (false, ()))


def rHas_c : Ctr := ⟨[.ro (.slice (.st (.pair (.int IntKind.i32) (.int IntKind.i32)))), .ro (.int IntKind.i32)], [.val .bool], fun v => rHas v.1 v.2.1⟩
def rHas_h : Nat → Option LH := fun i => none
def rHas_g : List (Nat × Ctr) := [(38, containsFunc_c)]
theorem rHas_eq (v : PDen rHas_c.ps) : semF tbl (gam rHas_g) rHas_h fuelN 16 (bodyOf Try.f26) rHas_c.ps rHas_c.rs [4] v = rHas_c.g v := by kernel_rfl

/- 10: trema/tremalaw05.fixed -/
def fixed : Option (Unit × (Bool × Unit)) :=
 (Option.bind (rNorm [((5 : Int), (9 : Int)), ((1 : Int), (3 : Int)), ((4 : Int), (4 : Int)), ((8 : Int), (7 : Int))]) fun r1 =>
 (Option.bind (rMinus [((0 : Int), (9 : Int))] [((3 : Int), (4 : Int))]) fun r2 =>
 (Option.bind (refSame r1.2.1 [((1 : Int), (9 : Int))]) fun r3 =>
 bif r3.2.1 then
 (Option.bind (refSame r2.2.1 [((0 : Int), (2 : Int)), ((5 : Int), (9 : Int))]) fun r4 =>
 bif r4.2.1 then
 (Option.bind (rMay r1.2.1) fun r5 =>
 bif r5.2.1 then
 (Option.bind (rHas r1.2.1 (4 : Int)) fun r6 =>
 bif r6.2.1 then
 (Option.bind (rHas r1.2.1 (0 : Int)) fun r7 =>
 bif (!r7.2.1) then
 (Option.bind (rUnion r1.2.1 r2.2.1) fun r8 =>
 bif ((r8.2.1.length : Int) == (1 : Int)) then
 (Option.bind (rMeet r1.2.1 r2.2.1) fun r9 =>
 bif ((r9.2.1.length : Int) == (2 : Int)) then
 (Option.bind (rNot r1.2.1) fun r10 =>
 bif ((r10.2.1.length : Int) == (2 : Int)) then
 (Option.bind (rCount r1.2.1) fun r11 =>
 bif (r11.2.1 == (9 : Int)) then
 (Option.bind (rEqual r1.2.1 r1.2.1) fun r12 =>
 some ((), (r12.2.1, ())))
 else
 some ((), (false, ())))
 else
 some ((), (false, ())))
 else
 some ((), (false, ())))
 else
 some ((), (false, ())))
 else
 some ((), (false, ())))
 else
 some ((), (false, ())))
 else
 some ((), (false, ())))
 else
 some ((), (false, ())))
 else
 some ((), (false, ())))))


def fixed_c : Ctr := ⟨[], [.val .bool], fun v => fixed⟩
def fixed_h : Nat → Option LH := fun i => none
def fixed_g : List (Nat × Ctr) := [(12, refSame_c), (13, rNorm_c), (14, rMay_c), (15, rCount_c), (16, rEqual_c), (17, rUnion_c), (19, rMeet_c), (21, rMinus_c), (23, rNot_c), (26, rHas_c)]
theorem fixed_eq (v : PDen fixed_c.ps) : semF tbl (gam fixed_g) fixed_h fuelN 68 (bodyOf Try.f10) fixed_c.ps fixed_c.rs [0] v = fixed_c.g v := by kernel_rfl

/- 3: trema/tremalaw05.RsetNorms -/
def lNorms_s8 (a0 : List (Int × Int)) (a1 : List (Int × Int)) (a5 : List (Int × Int)) (a6 : List (Int × Int)) (a7 : Int) (a16 : List (Int × Int)) (a17 : Int) (a18 : Int) : Option (((List (Int × Int) × (List (Int × Int) × (List (Int × Int) × (List (Int × Int) × (Int × (List (Int × Int) × (Int × (Int × Unit)))))))) × Unit) ⊕ ((List (Int × Int) × (List (Int × Int) × (List (Int × Int) × (List (Int × Int) × (Int × Unit))))) × Unit)) :=
 bif (decide (a18 < a17)) then
 (Option.bind (lk a16 a18) fun x9 =>
 let v10 := (IntKind.i64.wrap ((IntKind.i64.wrap (x9.2)) - (IntKind.i64.wrap (x9.1))))
 let v11 := (IntKind.i64.wrap (a7 + (IntKind.i64.wrap (v10 + (1 : Int)))))
 some (.inl ((a0, (a1, (a5, (a6, (v11, (a16, (a17, ((IntKind.i64.wrap (a18 + (1 : Int))), ())))))))), ())))
 else
 some (.inr ((a0, (a1, (a5, (a6, (a7, ()))))), ()))

def lNorms (p0 : List (Int × Int)) (p1 : List (Int × Int)) : Option (Unit × (Bool × Unit)) :=
 (Option.bind (show Option (((Bool × Unit) × Unit) ⊕ ((List (Int × Int) × (List (Int × Int) × Unit)) × Unit)) from
 (Option.bind (fixed) fun r2 =>
 bif (!r2.2.1) then
 some (.inl ((false, ()), ()))
 else
 some (.inr ((p0, (p1, ())), ())))) fun y3 =>
 (match y3 with
 | .inl y3 =>
 some ((), (y3.1.1, ()))
 | .inr y3 =>
 (Option.bind (refNorm y3.1.1) fun r4 =>
 (Option.bind (refNorm y3.1.2.1) fun r5 =>
 (Option.bind (show Option ((List (Int × Int) × (List (Int × Int) × (List (Int × Int) × (List (Int × Int) × (Int × Unit))))) × Unit) from
 (Option.bind (iterN (fun x => lNorms_s8 x.1.1 x.1.2.1 x.1.2.2.1 x.1.2.2.2.1 x.1.2.2.2.2.1 x.1.2.2.2.2.2.1 x.1.2.2.2.2.2.2.1 x.1.2.2.2.2.2.2.2.1) fuelN ((y3.1.1, (y3.1.2.1, (r4.2.1, (r5.2.1, ((0 : Int), (r4.2.1, ((r4.2.1.length : Int), ((0 : Int), ())))))))), ())) fun y12 =>
 some ((y12.1.1, (y12.1.2.1, (y12.1.2.2.1, (y12.1.2.2.2.1, (y12.1.2.2.2.2.1, ()))))), ()))) fun y13 =>
 (Option.bind (rNorm y13.1.1) fun r14 =>
 (Option.bind (refSame r14.2.1 y13.1.2.2.1) fun r15 =>
 bif r15.2.1 then
 (Option.bind (rMay y13.1.1) fun r16 =>
 (Option.bind (refSame y13.1.1 y13.1.2.2.1) fun r17 =>
 bif (r16.2.1 == r17.2.1) then
 (Option.bind (rCount y13.1.1) fun r18 =>
 bif (r18.2.1 == y13.1.2.2.2.2.1) then
 (Option.bind (rEqual y13.1.1 y13.1.2.1) fun r19 =>
 (Option.bind (refSame y13.1.2.2.1 y13.1.2.2.2.1) fun r20 =>
 bif (r19.2.1 == r20.2.1) then
 (Option.bind (rEqual y13.1.1 y13.1.2.2.1) fun r21 =>
 bif r21.2.1 then
 (Option.bind (rMay y13.1.2.2.1) fun r22 =>
 some ((), (r22.2.1, ())))
 else
 some ((), (false, ())))
 else
 some ((), (false, ()))))
 else
 some ((), (false, ())))
 else
 some ((), (false, ()))))
 else
 some ((), (false, ())))))))))


def lNorms_c : Ctr := ⟨[.ro (.slice (.st (.pair (.int IntKind.i32) (.int IntKind.i32)))), .ro (.slice (.st (.pair (.int IntKind.i32) (.int IntKind.i32))))], [.val .bool], fun v => lNorms v.1 v.2.1⟩
def lNorms_h : Nat → Option LH := fun i => if i = 1050010 then some ⟨⟨[], [], []⟩, [(.normal, ⟨[(0, (.slice (.st (.pair (.int IntKind.i32) (.int IntKind.i32))))), (1, (.slice (.st (.pair (.int IntKind.i32) (.int IntKind.i32))))), (5, (.slice (.st (.pair (.int IntKind.i32) (.int IntKind.i32))))), (6, (.slice (.st (.pair (.int IntKind.i32) (.int IntKind.i32))))), (7, (.int IntKind.i64))], [], []⟩)]⟩ else if i = 6 then some ⟨⟨[(0, (.slice (.st (.pair (.int IntKind.i32) (.int IntKind.i32))))), (1, (.slice (.st (.pair (.int IntKind.i32) (.int IntKind.i32))))), (5, (.slice (.st (.pair (.int IntKind.i32) (.int IntKind.i32))))), (6, (.slice (.st (.pair (.int IntKind.i32) (.int IntKind.i32))))), (7, (.int IntKind.i64)), (16, (.slice (.st (.pair (.int IntKind.i32) (.int IntKind.i32))))), (17, (.int IntKind.i64)), (18, (.int IntKind.i64))], [], []⟩, [((.exit 0), ⟨[(0, (.slice (.st (.pair (.int IntKind.i32) (.int IntKind.i32))))), (1, (.slice (.st (.pair (.int IntKind.i32) (.int IntKind.i32))))), (5, (.slice (.st (.pair (.int IntKind.i32) (.int IntKind.i32))))), (6, (.slice (.st (.pair (.int IntKind.i32) (.int IntKind.i32))))), (7, (.int IntKind.i64))], [], []⟩)]⟩ else if i = 1010003 then some ⟨⟨[], [], []⟩, [(.ret, ⟨[(4, .bool)], [], []⟩), (.normal, ⟨[(0, (.slice (.st (.pair (.int IntKind.i32) (.int IntKind.i32))))), (1, (.slice (.st (.pair (.int IntKind.i32) (.int IntKind.i32)))))], [], []⟩)]⟩ else none
def lNorms_g : List (Nat × Ctr) := [(12, refSame_c), (11, refNorm_c), (13, rNorm_c), (14, rMay_c), (15, rCount_c), (16, rEqual_c), (10, fixed_c)]
theorem lNorms_eq (v : PDen lNorms_c.ps) : semF tbl (gam lNorms_g) lNorms_h fuelN 69 (bodyOf Try.f3) lNorms_c.ps lNorms_c.rs [4] v = lNorms_c.g v := by kernel_rfl

/- 4: trema/tremalaw05.RsetOps -/
def lOps (p0 : List (Int × Int)) (p1 : List (Int × Int)) : Option (Unit × (Bool × Unit)) :=
 (Option.bind (fixed) fun r1 =>
 bif r1.2.1 then
 (Option.bind (rUnion p0 p1) fun r2 =>
 (Option.bind (refUnion p0 p1) fun r3 =>
 (Option.bind (refSame r2.2.1 r3.2.1) fun r4 =>
 bif r4.2.1 then
 (Option.bind (rMeet p0 p1) fun r5 =>
 (Option.bind (refMeet p0 p1) fun r6 =>
 (Option.bind (refSame r5.2.1 r6.2.1) fun r7 =>
 bif r7.2.1 then
 (Option.bind (rMinus p0 p1) fun r8 =>
 (Option.bind (refMinus p0 p1) fun r9 =>
 (Option.bind (refSame r8.2.1 r9.2.1) fun r10 =>
 bif r10.2.1 then
 (Option.bind (rNot p0) fun r11 =>
 (Option.bind (refNot p0) fun r12 =>
 (Option.bind (refSame r11.2.1 r12.2.1) fun r13 =>
 some ((), (r13.2.1, ())))))
 else
 some ((), (false, ())))))
 else
 some ((), (false, ())))))
 else
 some ((), (false, ())))))
 else
 some ((), (false, ())))


def lOps_c : Ctr := ⟨[.ro (.slice (.st (.pair (.int IntKind.i32) (.int IntKind.i32)))), .ro (.slice (.st (.pair (.int IntKind.i32) (.int IntKind.i32))))], [.val .bool], fun v => lOps v.1 v.2.1⟩
def lOps_h : Nat → Option LH := fun i => none
def lOps_g : List (Nat × Ctr) := [(12, refSame_c), (17, rUnion_c), (19, rMeet_c), (21, rMinus_c), (23, rNot_c), (18, refUnion_c), (24, refNot_c), (20, refMeet_c), (22, refMinus_c), (10, fixed_c)]
theorem lOps_eq (v : PDen lOps_c.ps) : semF tbl (gam lOps_g) lOps_h fuelN 40 (bodyOf Try.f4) lOps_c.ps lOps_c.rs [4] v = lOps_c.g v := by kernel_rfl

/- 5: trema/tremalaw05.RsetMembers -/
def lMembers_s15 (a0 : List (Int × Int)) (a1 : List (Int × Int)) (a2 : List Int) (a7 : List (Int × Int)) (a8 : List (Int × Int)) (a9 : List (Int × Int)) (a10 : List (Int × Int)) (a12 : List (Int × Int)) (a44 : Int) (a45 : Int) (a49 : List (Int × Int)) (a50 : Int) (a51 : Int) (g43 : List (List (Int × Int))) : Option (((List (Int × Int) × (List (Int × Int) × (List Int × (List (Int × Int) × (List (Int × Int) × (List (Int × Int) × (List (Int × Int) × (List (Int × Int) × (Int × (Int × (List (Int × Int) × (Int × (Int × Unit))))))))))))) × (List (List (Int × Int)) × Unit)) ⊕ (((Bool × Unit) × Unit) ⊕ ((List (Int × Int) × (List (Int × Int) × (List Int × (List (Int × Int) × (List (Int × Int) × (List (Int × Int) × (List (Int × Int) × (Int × (Int × Unit))))))))) × (List (List (Int × Int)) × Unit)))) :=
 bif (decide (a51 < a50)) then
 (Option.bind (lk a49 a51) fun x16 =>
 bif (decide (x16.1 < (0 : Int))) then
 some (.inr (.inl ((false, ()), ())))
 else
 bif (decide (x16.1 > x16.2)) then
 some (.inr (.inl ((false, ()), ())))
 else
 bif (decide (x16.2 > (1114111 : Int))) then
 some (.inr (.inl ((false, ()), ())))
 else
 bif (decide (a51 > (0 : Int))) then
 (Option.bind (lk a12 (IntKind.i64.wrap (a51 - (1 : Int)))) fun x17 =>
 bif (decide (x16.1 < (IntKind.i32.wrap (x17.2 + (2 : Int))))) then
 some (.inr (.inl ((false, ()), ())))
 else
 some (.inl ((a0, (a1, (a2, (a7, (a8, (a9, (a10, (a12, (a44, (a45, (a49, (a50, ((IntKind.i64.wrap (a51 + (1 : Int))), ()))))))))))))), (g43, ()))))
 else
 some (.inl ((a0, (a1, (a2, (a7, (a8, (a9, (a10, (a12, (a44, (a45, (a49, (a50, ((IntKind.i64.wrap (a51 + (1 : Int))), ()))))))))))))), (g43, ()))))
 else
 some (.inr (.inr ((a0, (a1, (a2, (a7, (a8, (a9, (a10, (a44, (a45, ()))))))))), (g43, ()))))

def lMembers_s11 (a0 : List (Int × Int)) (a1 : List (Int × Int)) (a2 : List Int) (a7 : List (Int × Int)) (a8 : List (Int × Int)) (a9 : List (Int × Int)) (a10 : List (Int × Int)) (a44 : Int) (a45 : Int) (g43 : List (List (Int × Int))) : Option (((List (Int × Int) × (List (Int × Int) × (List Int × (List (Int × Int) × (List (Int × Int) × (List (Int × Int) × (List (Int × Int) × (Int × (Int × Unit))))))))) × (List (List (Int × Int)) × Unit)) ⊕ (((Bool × Unit) × Unit) ⊕ ((List (Int × Int) × (List (Int × Int) × (List Int × (List (Int × Int) × (List (Int × Int) × (List (Int × Int) × (List (Int × Int) × Unit))))))) × Unit))) :=
 bif (decide (a45 < a44)) then
 (Option.bind (lk g43 a45) fun _x12 =>
 (Option.bind (lk g43 a45) fun x13 =>
 (Option.bind (iterN (fun x => lMembers_s15 x.1.1 x.1.2.1 x.1.2.2.1 x.1.2.2.2.1 x.1.2.2.2.2.1 x.1.2.2.2.2.2.1 x.1.2.2.2.2.2.2.1 x.1.2.2.2.2.2.2.2.1 x.1.2.2.2.2.2.2.2.2.1 x.1.2.2.2.2.2.2.2.2.2.1 x.1.2.2.2.2.2.2.2.2.2.2.1 x.1.2.2.2.2.2.2.2.2.2.2.2.1 x.1.2.2.2.2.2.2.2.2.2.2.2.2.1 x.2.1) fuelN ((a0, (a1, (a2, (a7, (a8, (a9, (a10, (x13, (a44, (a45, (x13, ((x13.length : Int), ((0 : Int), ()))))))))))))), (g43, ()))) fun y18 =>
 (match y18 with
 | .inl y18 =>
 some (.inr (.inl ((y18.1.1, ()), ())))
 | .inr y18 =>
 some (.inl ((y18.1.1, (y18.1.2.1, (y18.1.2.2.1, (y18.1.2.2.2.1, (y18.1.2.2.2.2.1, (y18.1.2.2.2.2.2.1, (y18.1.2.2.2.2.2.2.1, (y18.1.2.2.2.2.2.2.2.1, ((IntKind.i64.wrap (y18.1.2.2.2.2.2.2.2.2.1 + (1 : Int))), ()))))))))), (y18.2.1, ())))))))
 else
 some (.inr (.inr ((a0, (a1, (a2, (a7, (a8, (a9, (a10, ()))))))), ())))

def lMembers_s28 (a0 : List (Int × Int)) (a1 : List (Int × Int)) (a7 : List (Int × Int)) (a8 : List (Int × Int)) (a9 : List (Int × Int)) (a10 : List (Int × Int)) (a95 : Int) (a96 : Int) (a100 : List (Int × Int)) (a101 : Int) (a102 : Int) (g15 : List Int) (g94 : List (List (Int × Int))) : Option (((List (Int × Int) × (List (Int × Int) × (List (Int × Int) × (List (Int × Int) × (List (Int × Int) × (List (Int × Int) × (Int × (Int × (List (Int × Int) × (Int × (Int × Unit))))))))))) × (List Int × (List (List (Int × Int)) × Unit))) ⊕ ((List (Int × Int) × (List (Int × Int) × (List (Int × Int) × (List (Int × Int) × (List (Int × Int) × (List (Int × Int) × (Int × (Int × Unit)))))))) × (List Int × (List (List (Int × Int)) × Unit)))) :=
 bif (decide (a102 < a101)) then
 (Option.bind (lk a100 a102) fun x29 =>
 bif (roomOk (g15.length + [x29.1, x29.2, (IntKind.i32.wrap (x29.1 - (1 : Int))), (IntKind.i32.wrap (x29.2 + (1 : Int)))].length) 4) then
 let l30 := (g15 ++ [x29.1, x29.2, (IntKind.i32.wrap (x29.1 - (1 : Int))), (IntKind.i32.wrap (x29.2 + (1 : Int)))])
 some (.inl ((a0, (a1, (a7, (a8, (a9, (a10, (a95, (a96, (a100, (a101, ((IntKind.i64.wrap (a102 + (1 : Int))), ()))))))))))), (l30, (g94, ()))))
 else none)
 else
 some (.inr ((a0, (a1, (a7, (a8, (a9, (a10, (a95, (a96, ())))))))), (g15, (g94, ()))))

def lMembers_s24 (a0 : List (Int × Int)) (a1 : List (Int × Int)) (a7 : List (Int × Int)) (a8 : List (Int × Int)) (a9 : List (Int × Int)) (a10 : List (Int × Int)) (a95 : Int) (a96 : Int) (g15 : List Int) (g94 : List (List (Int × Int))) : Option (((List (Int × Int) × (List (Int × Int) × (List (Int × Int) × (List (Int × Int) × (List (Int × Int) × (List (Int × Int) × (Int × (Int × Unit)))))))) × (List Int × (List (List (Int × Int)) × Unit))) ⊕ ((List (Int × Int) × (List (Int × Int) × (List (Int × Int) × (List (Int × Int) × (List (Int × Int) × (List (Int × Int) × Unit)))))) × (List Int × Unit))) :=
 bif (decide (a96 < a95)) then
 (Option.bind (lk g94 a96) fun _x25 =>
 (Option.bind (lk g94 a96) fun x26 =>
 (Option.bind (iterN (fun x => lMembers_s28 x.1.1 x.1.2.1 x.1.2.2.1 x.1.2.2.2.1 x.1.2.2.2.2.1 x.1.2.2.2.2.2.1 x.1.2.2.2.2.2.2.1 x.1.2.2.2.2.2.2.2.1 x.1.2.2.2.2.2.2.2.2.1 x.1.2.2.2.2.2.2.2.2.2.1 x.1.2.2.2.2.2.2.2.2.2.2.1 x.2.1 x.2.2.1) fuelN ((a0, (a1, (a7, (a8, (a9, (a10, (a95, (a96, (x26, ((x26.length : Int), ((0 : Int), ()))))))))))), (g15, (g94, ())))) fun y31 =>
 some (.inl ((y31.1.1, (y31.1.2.1, (y31.1.2.2.1, (y31.1.2.2.2.1, (y31.1.2.2.2.2.1, (y31.1.2.2.2.2.2.1, (y31.1.2.2.2.2.2.2.1, ((IntKind.i64.wrap (y31.1.2.2.2.2.2.2.2.1 + (1 : Int))), ())))))))), (y31.2.1, (y31.2.2.1, ())))))))
 else
 some (.inr ((a0, (a1, (a7, (a8, (a9, (a10, ())))))), (g15, ())))

def lMembers_s35 (a0 : List (Int × Int)) (a1 : List (Int × Int)) (a7 : List (Int × Int)) (a8 : List (Int × Int)) (a9 : List (Int × Int)) (a10 : List (Int × Int)) (a122 : Int) (a123 : Int) (g121 : List Int) : Option (((List (Int × Int) × (List (Int × Int) × (List (Int × Int) × (List (Int × Int) × (List (Int × Int) × (List (Int × Int) × (Int × (Int × Unit)))))))) × (List Int × Unit)) ⊕ (((Bool × Unit) × Unit) ⊕ (Unit × Unit))) :=
 bif (decide (a123 < a122)) then
 (Option.bind (lk g121 a123) fun _x36 =>
 (Option.bind (lk g121 a123) fun x37 =>
 (Option.bind (refHas a0 x37) fun r38 =>
 (Option.bind (refHas a1 x37) fun r39 =>
 (Option.bind (rHas a0 x37) fun r40 =>
 bif (!(r40.2.1 == r38.2.1)) then
 some (.inr (.inl ((false, ()), ())))
 else
 (Option.bind (rHas a7 x37) fun r41 =>
 bif r38.2.1 then
 bif (!(r41.2.1 == true)) then
 some (.inr (.inl ((false, ()), ())))
 else
 (Option.bind (rHas a8 x37) fun r42 =>
 bif r38.2.1 then
 bif (!(r42.2.1 == r39.2.1)) then
 some (.inr (.inl ((false, ()), ())))
 else
 (Option.bind (rHas a9 x37) fun r43 =>
 bif r38.2.1 then
 bif (!(r43.2.1 == (!r39.2.1))) then
 some (.inr (.inl ((false, ()), ())))
 else
 (Option.bind (rHas a10 x37) fun r44 =>
 bif (!r38.2.1) then
 bif (decide (x37 ≥ (0 : Int))) then
 bif (!(r44.2.1 == (decide (x37 ≤ (1114111 : Int))))) then
 some (.inr (.inl ((false, ()), ())))
 else
 (Option.bind (rNorm a0) fun r45 =>
 (Option.bind (rHas r45.2.1 x37) fun r46 =>
 bif (!(r46.2.1 == r38.2.1)) then
 some (.inr (.inl ((false, ()), ())))
 else
 some (.inl ((a0, (a1, (a7, (a8, (a9, (a10, (a122, ((IntKind.i64.wrap (a123 + (1 : Int))), ())))))))), (g121, ())))))
 else
 bif (!(r44.2.1 == false)) then
 some (.inr (.inl ((false, ()), ())))
 else
 (Option.bind (rNorm a0) fun r47 =>
 (Option.bind (rHas r47.2.1 x37) fun r48 =>
 bif (!(r48.2.1 == r38.2.1)) then
 some (.inr (.inl ((false, ()), ())))
 else
 some (.inl ((a0, (a1, (a7, (a8, (a9, (a10, (a122, ((IntKind.i64.wrap (a123 + (1 : Int))), ())))))))), (g121, ())))))
 else
 bif (!(r44.2.1 == false)) then
 some (.inr (.inl ((false, ()), ())))
 else
 (Option.bind (rNorm a0) fun r49 =>
 (Option.bind (rHas r49.2.1 x37) fun r50 =>
 bif (!(r50.2.1 == r38.2.1)) then
 some (.inr (.inl ((false, ()), ())))
 else
 some (.inl ((a0, (a1, (a7, (a8, (a9, (a10, (a122, ((IntKind.i64.wrap (a123 + (1 : Int))), ())))))))), (g121, ()))))))
 else
 bif (!(r43.2.1 == false)) then
 some (.inr (.inl ((false, ()), ())))
 else
 (Option.bind (rHas a10 x37) fun r51 =>
 bif (!r38.2.1) then
 bif (decide (x37 ≥ (0 : Int))) then
 bif (!(r51.2.1 == (decide (x37 ≤ (1114111 : Int))))) then
 some (.inr (.inl ((false, ()), ())))
 else
 (Option.bind (rNorm a0) fun r52 =>
 (Option.bind (rHas r52.2.1 x37) fun r53 =>
 bif (!(r53.2.1 == r38.2.1)) then
 some (.inr (.inl ((false, ()), ())))
 else
 some (.inl ((a0, (a1, (a7, (a8, (a9, (a10, (a122, ((IntKind.i64.wrap (a123 + (1 : Int))), ())))))))), (g121, ())))))
 else
 bif (!(r51.2.1 == false)) then
 some (.inr (.inl ((false, ()), ())))
 else
 (Option.bind (rNorm a0) fun r54 =>
 (Option.bind (rHas r54.2.1 x37) fun r55 =>
 bif (!(r55.2.1 == r38.2.1)) then
 some (.inr (.inl ((false, ()), ())))
 else
 some (.inl ((a0, (a1, (a7, (a8, (a9, (a10, (a122, ((IntKind.i64.wrap (a123 + (1 : Int))), ())))))))), (g121, ())))))
 else
 bif (!(r51.2.1 == false)) then
 some (.inr (.inl ((false, ()), ())))
 else
 (Option.bind (rNorm a0) fun r56 =>
 (Option.bind (rHas r56.2.1 x37) fun r57 =>
 bif (!(r57.2.1 == r38.2.1)) then
 some (.inr (.inl ((false, ()), ())))
 else
 some (.inl ((a0, (a1, (a7, (a8, (a9, (a10, (a122, ((IntKind.i64.wrap (a123 + (1 : Int))), ())))))))), (g121, ())))))))
 else
 bif (!(r42.2.1 == false)) then
 some (.inr (.inl ((false, ()), ())))
 else
 (Option.bind (rHas a9 x37) fun r58 =>
 bif r38.2.1 then
 bif (!(r58.2.1 == (!r39.2.1))) then
 some (.inr (.inl ((false, ()), ())))
 else
 (Option.bind (rHas a10 x37) fun r59 =>
 bif (!r38.2.1) then
 bif (decide (x37 ≥ (0 : Int))) then
 bif (!(r59.2.1 == (decide (x37 ≤ (1114111 : Int))))) then
 some (.inr (.inl ((false, ()), ())))
 else
 (Option.bind (rNorm a0) fun r60 =>
 (Option.bind (rHas r60.2.1 x37) fun r61 =>
 bif (!(r61.2.1 == r38.2.1)) then
 some (.inr (.inl ((false, ()), ())))
 else
 some (.inl ((a0, (a1, (a7, (a8, (a9, (a10, (a122, ((IntKind.i64.wrap (a123 + (1 : Int))), ())))))))), (g121, ())))))
 else
 bif (!(r59.2.1 == false)) then
 some (.inr (.inl ((false, ()), ())))
 else
 (Option.bind (rNorm a0) fun r62 =>
 (Option.bind (rHas r62.2.1 x37) fun r63 =>
 bif (!(r63.2.1 == r38.2.1)) then
 some (.inr (.inl ((false, ()), ())))
 else
 some (.inl ((a0, (a1, (a7, (a8, (a9, (a10, (a122, ((IntKind.i64.wrap (a123 + (1 : Int))), ())))))))), (g121, ())))))
 else
 bif (!(r59.2.1 == false)) then
 some (.inr (.inl ((false, ()), ())))
 else
 (Option.bind (rNorm a0) fun r64 =>
 (Option.bind (rHas r64.2.1 x37) fun r65 =>
 bif (!(r65.2.1 == r38.2.1)) then
 some (.inr (.inl ((false, ()), ())))
 else
 some (.inl ((a0, (a1, (a7, (a8, (a9, (a10, (a122, ((IntKind.i64.wrap (a123 + (1 : Int))), ())))))))), (g121, ()))))))
 else
 bif (!(r58.2.1 == false)) then
 some (.inr (.inl ((false, ()), ())))
 else
 (Option.bind (rHas a10 x37) fun r66 =>
 bif (!r38.2.1) then
 bif (decide (x37 ≥ (0 : Int))) then
 bif (!(r66.2.1 == (decide (x37 ≤ (1114111 : Int))))) then
 some (.inr (.inl ((false, ()), ())))
 else
 (Option.bind (rNorm a0) fun r67 =>
 (Option.bind (rHas r67.2.1 x37) fun r68 =>
 bif (!(r68.2.1 == r38.2.1)) then
 some (.inr (.inl ((false, ()), ())))
 else
 some (.inl ((a0, (a1, (a7, (a8, (a9, (a10, (a122, ((IntKind.i64.wrap (a123 + (1 : Int))), ())))))))), (g121, ())))))
 else
 bif (!(r66.2.1 == false)) then
 some (.inr (.inl ((false, ()), ())))
 else
 (Option.bind (rNorm a0) fun r69 =>
 (Option.bind (rHas r69.2.1 x37) fun r70 =>
 bif (!(r70.2.1 == r38.2.1)) then
 some (.inr (.inl ((false, ()), ())))
 else
 some (.inl ((a0, (a1, (a7, (a8, (a9, (a10, (a122, ((IntKind.i64.wrap (a123 + (1 : Int))), ())))))))), (g121, ())))))
 else
 bif (!(r66.2.1 == false)) then
 some (.inr (.inl ((false, ()), ())))
 else
 (Option.bind (rNorm a0) fun r71 =>
 (Option.bind (rHas r71.2.1 x37) fun r72 =>
 bif (!(r72.2.1 == r38.2.1)) then
 some (.inr (.inl ((false, ()), ())))
 else
 some (.inl ((a0, (a1, (a7, (a8, (a9, (a10, (a122, ((IntKind.i64.wrap (a123 + (1 : Int))), ())))))))), (g121, ()))))))))
 else
 bif (!(r41.2.1 == r39.2.1)) then
 some (.inr (.inl ((false, ()), ())))
 else
 (Option.bind (rHas a8 x37) fun r73 =>
 bif r38.2.1 then
 bif (!(r73.2.1 == r39.2.1)) then
 some (.inr (.inl ((false, ()), ())))
 else
 (Option.bind (rHas a9 x37) fun r74 =>
 bif r38.2.1 then
 bif (!(r74.2.1 == (!r39.2.1))) then
 some (.inr (.inl ((false, ()), ())))
 else
 (Option.bind (rHas a10 x37) fun r75 =>
 bif (!r38.2.1) then
 bif (decide (x37 ≥ (0 : Int))) then
 bif (!(r75.2.1 == (decide (x37 ≤ (1114111 : Int))))) then
 some (.inr (.inl ((false, ()), ())))
 else
 (Option.bind (rNorm a0) fun r76 =>
 (Option.bind (rHas r76.2.1 x37) fun r77 =>
 bif (!(r77.2.1 == r38.2.1)) then
 some (.inr (.inl ((false, ()), ())))
 else
 some (.inl ((a0, (a1, (a7, (a8, (a9, (a10, (a122, ((IntKind.i64.wrap (a123 + (1 : Int))), ())))))))), (g121, ())))))
 else
 bif (!(r75.2.1 == false)) then
 some (.inr (.inl ((false, ()), ())))
 else
 (Option.bind (rNorm a0) fun r78 =>
 (Option.bind (rHas r78.2.1 x37) fun r79 =>
 bif (!(r79.2.1 == r38.2.1)) then
 some (.inr (.inl ((false, ()), ())))
 else
 some (.inl ((a0, (a1, (a7, (a8, (a9, (a10, (a122, ((IntKind.i64.wrap (a123 + (1 : Int))), ())))))))), (g121, ())))))
 else
 bif (!(r75.2.1 == false)) then
 some (.inr (.inl ((false, ()), ())))
 else
 (Option.bind (rNorm a0) fun r80 =>
 (Option.bind (rHas r80.2.1 x37) fun r81 =>
 bif (!(r81.2.1 == r38.2.1)) then
 some (.inr (.inl ((false, ()), ())))
 else
 some (.inl ((a0, (a1, (a7, (a8, (a9, (a10, (a122, ((IntKind.i64.wrap (a123 + (1 : Int))), ())))))))), (g121, ()))))))
 else
 bif (!(r74.2.1 == false)) then
 some (.inr (.inl ((false, ()), ())))
 else
 (Option.bind (rHas a10 x37) fun r82 =>
 bif (!r38.2.1) then
 bif (decide (x37 ≥ (0 : Int))) then
 bif (!(r82.2.1 == (decide (x37 ≤ (1114111 : Int))))) then
 some (.inr (.inl ((false, ()), ())))
 else
 (Option.bind (rNorm a0) fun r83 =>
 (Option.bind (rHas r83.2.1 x37) fun r84 =>
 bif (!(r84.2.1 == r38.2.1)) then
 some (.inr (.inl ((false, ()), ())))
 else
 some (.inl ((a0, (a1, (a7, (a8, (a9, (a10, (a122, ((IntKind.i64.wrap (a123 + (1 : Int))), ())))))))), (g121, ())))))
 else
 bif (!(r82.2.1 == false)) then
 some (.inr (.inl ((false, ()), ())))
 else
 (Option.bind (rNorm a0) fun r85 =>
 (Option.bind (rHas r85.2.1 x37) fun r86 =>
 bif (!(r86.2.1 == r38.2.1)) then
 some (.inr (.inl ((false, ()), ())))
 else
 some (.inl ((a0, (a1, (a7, (a8, (a9, (a10, (a122, ((IntKind.i64.wrap (a123 + (1 : Int))), ())))))))), (g121, ())))))
 else
 bif (!(r82.2.1 == false)) then
 some (.inr (.inl ((false, ()), ())))
 else
 (Option.bind (rNorm a0) fun r87 =>
 (Option.bind (rHas r87.2.1 x37) fun r88 =>
 bif (!(r88.2.1 == r38.2.1)) then
 some (.inr (.inl ((false, ()), ())))
 else
 some (.inl ((a0, (a1, (a7, (a8, (a9, (a10, (a122, ((IntKind.i64.wrap (a123 + (1 : Int))), ())))))))), (g121, ())))))))
 else
 bif (!(r73.2.1 == false)) then
 some (.inr (.inl ((false, ()), ())))
 else
 (Option.bind (rHas a9 x37) fun r89 =>
 bif r38.2.1 then
 bif (!(r89.2.1 == (!r39.2.1))) then
 some (.inr (.inl ((false, ()), ())))
 else
 (Option.bind (rHas a10 x37) fun r90 =>
 bif (!r38.2.1) then
 bif (decide (x37 ≥ (0 : Int))) then
 bif (!(r90.2.1 == (decide (x37 ≤ (1114111 : Int))))) then
 some (.inr (.inl ((false, ()), ())))
 else
 (Option.bind (rNorm a0) fun r91 =>
 (Option.bind (rHas r91.2.1 x37) fun r92 =>
 bif (!(r92.2.1 == r38.2.1)) then
 some (.inr (.inl ((false, ()), ())))
 else
 some (.inl ((a0, (a1, (a7, (a8, (a9, (a10, (a122, ((IntKind.i64.wrap (a123 + (1 : Int))), ())))))))), (g121, ())))))
 else
 bif (!(r90.2.1 == false)) then
 some (.inr (.inl ((false, ()), ())))
 else
 (Option.bind (rNorm a0) fun r93 =>
 (Option.bind (rHas r93.2.1 x37) fun r94 =>
 bif (!(r94.2.1 == r38.2.1)) then
 some (.inr (.inl ((false, ()), ())))
 else
 some (.inl ((a0, (a1, (a7, (a8, (a9, (a10, (a122, ((IntKind.i64.wrap (a123 + (1 : Int))), ())))))))), (g121, ())))))
 else
 bif (!(r90.2.1 == false)) then
 some (.inr (.inl ((false, ()), ())))
 else
 (Option.bind (rNorm a0) fun r95 =>
 (Option.bind (rHas r95.2.1 x37) fun r96 =>
 bif (!(r96.2.1 == r38.2.1)) then
 some (.inr (.inl ((false, ()), ())))
 else
 some (.inl ((a0, (a1, (a7, (a8, (a9, (a10, (a122, ((IntKind.i64.wrap (a123 + (1 : Int))), ())))))))), (g121, ()))))))
 else
 bif (!(r89.2.1 == false)) then
 some (.inr (.inl ((false, ()), ())))
 else
 (Option.bind (rHas a10 x37) fun r97 =>
 bif (!r38.2.1) then
 bif (decide (x37 ≥ (0 : Int))) then
 bif (!(r97.2.1 == (decide (x37 ≤ (1114111 : Int))))) then
 some (.inr (.inl ((false, ()), ())))
 else
 (Option.bind (rNorm a0) fun r98 =>
 (Option.bind (rHas r98.2.1 x37) fun r99 =>
 bif (!(r99.2.1 == r38.2.1)) then
 some (.inr (.inl ((false, ()), ())))
 else
 some (.inl ((a0, (a1, (a7, (a8, (a9, (a10, (a122, ((IntKind.i64.wrap (a123 + (1 : Int))), ())))))))), (g121, ())))))
 else
 bif (!(r97.2.1 == false)) then
 some (.inr (.inl ((false, ()), ())))
 else
 (Option.bind (rNorm a0) fun r100 =>
 (Option.bind (rHas r100.2.1 x37) fun r101 =>
 bif (!(r101.2.1 == r38.2.1)) then
 some (.inr (.inl ((false, ()), ())))
 else
 some (.inl ((a0, (a1, (a7, (a8, (a9, (a10, (a122, ((IntKind.i64.wrap (a123 + (1 : Int))), ())))))))), (g121, ())))))
 else
 bif (!(r97.2.1 == false)) then
 some (.inr (.inl ((false, ()), ())))
 else
 (Option.bind (rNorm a0) fun r102 =>
 (Option.bind (rHas r102.2.1 x37) fun r103 =>
 bif (!(r103.2.1 == r38.2.1)) then
 some (.inr (.inl ((false, ()), ())))
 else
 some (.inl ((a0, (a1, (a7, (a8, (a9, (a10, (a122, ((IntKind.i64.wrap (a123 + (1 : Int))), ())))))))), (g121, ()))))))))))))))
 else
 some (.inr (.inr ((), ())))

def lMembers (p0 : List (Int × Int)) (p1 : List (Int × Int)) (p2 : List Int) : Option (Unit × (Bool × Unit)) :=
 (Option.bind (show Option (((Bool × Unit) × Unit) ⊕ ((List (Int × Int) × (List (Int × Int) × (List Int × Unit))) × Unit)) from
 (Option.bind (fixed) fun r2 =>
 bif (!r2.2.1) then
 some (.inl ((false, ()), ()))
 else
 some (.inr ((p0, (p1, (p2, ()))), ())))) fun y3 =>
 (match y3 with
 | .inl y3 =>
 some ((), (y3.1.1, ()))
 | .inr y3 =>
 (Option.bind (rUnion y3.1.1 y3.1.2.1) fun r4 =>
 (Option.bind (rMeet y3.1.1 y3.1.2.1) fun r5 =>
 (Option.bind (rMinus y3.1.1 y3.1.2.1) fun r6 =>
 (Option.bind (rNot y3.1.1) fun r7 =>
 (Option.bind (show Option (((Bool × Unit) × Unit) ⊕ ((List (Int × Int) × (List (Int × Int) × (List Int × (List (Int × Int) × (List (Int × Int) × (List (Int × Int) × (List (Int × Int) × Unit))))))) × Unit)) from
 (Option.bind (rNorm y3.1.1) fun r9 =>
 (Option.bind (iterN (fun x => lMembers_s11 x.1.1 x.1.2.1 x.1.2.2.1 x.1.2.2.2.1 x.1.2.2.2.2.1 x.1.2.2.2.2.2.1 x.1.2.2.2.2.2.2.1 x.1.2.2.2.2.2.2.2.1 x.1.2.2.2.2.2.2.2.2.1 x.2.1) fuelN ((y3.1.1, (y3.1.2.1, (y3.1.2.2.1, (r4.2.1, (r5.2.1, (r6.2.1, (r7.2.1, (([r4.2.1, r5.2.1, r6.2.1, r7.2.1, r9.2.1].length : Int), ((0 : Int), ()))))))))), ([r4.2.1, r5.2.1, r6.2.1, r7.2.1, r9.2.1], ()))) fun y19 =>
 (match y19 with
 | .inl y19 =>
 some (.inl ((y19.1.1, ()), ()))
 | .inr y19 =>
 some (.inr ((y19.1.1, (y19.1.2.1, (y19.1.2.2.1, (y19.1.2.2.2.1, (y19.1.2.2.2.2.1, (y19.1.2.2.2.2.2.1, (y19.1.2.2.2.2.2.2.1, ()))))))), ())))))) fun y20 =>
 (match y20 with
 | .inl y20 =>
 some ((), (y20.1.1, ()))
 | .inr y20 =>
 bif (roomOk ([(0 : Int), (1114111 : Int), (-1 : Int), (1114112 : Int)].length + y20.1.2.2.1.length) 4) then
 let l21 := ([(0 : Int), (1114111 : Int), (-1 : Int), (1114112 : Int)] ++ y20.1.2.2.1)
 (Option.bind (show Option ((List (Int × Int) × (List (Int × Int) × (List (Int × Int) × (List (Int × Int) × (List (Int × Int) × (List (Int × Int) × Unit)))))) × (List Int × Unit)) from
 (Option.bind (iterN (fun x => lMembers_s24 x.1.1 x.1.2.1 x.1.2.2.1 x.1.2.2.2.1 x.1.2.2.2.2.1 x.1.2.2.2.2.2.1 x.1.2.2.2.2.2.2.1 x.1.2.2.2.2.2.2.2.1 x.2.1 x.2.2.1) fuelN ((y20.1.1, (y20.1.2.1, (y20.1.2.2.2.1, (y20.1.2.2.2.2.1, (y20.1.2.2.2.2.2.1, (y20.1.2.2.2.2.2.2.1, (([y20.1.1, y20.1.2.1].length : Int), ((0 : Int), ())))))))), (l21, ([y20.1.1, y20.1.2.1], ())))) fun y32 =>
 some ((y32.1.1, (y32.1.2.1, (y32.1.2.2.1, (y32.1.2.2.2.1, (y32.1.2.2.2.2.1, (y32.1.2.2.2.2.2.1, ())))))), (y32.2.1, ())))) fun y33 =>
 (Option.bind (iterN (fun x => lMembers_s35 x.1.1 x.1.2.1 x.1.2.2.1 x.1.2.2.2.1 x.1.2.2.2.2.1 x.1.2.2.2.2.2.1 x.1.2.2.2.2.2.2.1 x.1.2.2.2.2.2.2.2.1 x.2.1) fuelN ((y33.1.1, (y33.1.2.1, (y33.1.2.2.1, (y33.1.2.2.2.1, (y33.1.2.2.2.2.1, (y33.1.2.2.2.2.2.1, ((y33.2.1.length : Int), ((0 : Int), ())))))))), (y33.2.1, ()))) fun y104 =>
 (match y104 with
 | .inl y104 =>
 some ((), (y104.1.1, ()))
 | .inr y104 =>
 some ((), (true, ())))))
 else none))))))))


def lMembers_c : Ctr := ⟨[.ro (.slice (.st (.pair (.int IntKind.i32) (.int IntKind.i32)))), .ro (.slice (.st (.pair (.int IntKind.i32) (.int IntKind.i32)))), .ro (.slice (.int IntKind.i32))], [.val .bool], fun v => lMembers v.1 v.2.1 v.2.2.1⟩
def lMembers_h : Nat → Option LH := fun i => if i = 25 then some ⟨⟨[(0, (.slice (.st (.pair (.int IntKind.i32) (.int IntKind.i32))))), (1, (.slice (.st (.pair (.int IntKind.i32) (.int IntKind.i32))))), (7, (.slice (.st (.pair (.int IntKind.i32) (.int IntKind.i32))))), (8, (.slice (.st (.pair (.int IntKind.i32) (.int IntKind.i32))))), (9, (.slice (.st (.pair (.int IntKind.i32) (.int IntKind.i32))))), (10, (.slice (.st (.pair (.int IntKind.i32) (.int IntKind.i32))))), (121, (.ow 0)), (122, (.int IntKind.i64)), (123, (.int IntKind.i64))], [(121, (.int IntKind.i32))], []⟩, [(.ret, ⟨[(6, .bool)], [], []⟩), ((.exit 8), ⟨[], [], []⟩)]⟩ else if i = 1150024 then some ⟨⟨[], [], []⟩, [(.normal, ⟨[(0, (.slice (.st (.pair (.int IntKind.i32) (.int IntKind.i32))))), (1, (.slice (.st (.pair (.int IntKind.i32) (.int IntKind.i32))))), (7, (.slice (.st (.pair (.int IntKind.i32) (.int IntKind.i32))))), (8, (.slice (.st (.pair (.int IntKind.i32) (.int IntKind.i32))))), (9, (.slice (.st (.pair (.int IntKind.i32) (.int IntKind.i32))))), (10, (.slice (.st (.pair (.int IntKind.i32) (.int IntKind.i32))))), (15, (.ow 0))], [(15, (.int IntKind.i32))], []⟩)]⟩ else if i = 16 then some ⟨⟨[(0, (.slice (.st (.pair (.int IntKind.i32) (.int IntKind.i32))))), (1, (.slice (.st (.pair (.int IntKind.i32) (.int IntKind.i32))))), (7, (.slice (.st (.pair (.int IntKind.i32) (.int IntKind.i32))))), (8, (.slice (.st (.pair (.int IntKind.i32) (.int IntKind.i32))))), (9, (.slice (.st (.pair (.int IntKind.i32) (.int IntKind.i32))))), (10, (.slice (.st (.pair (.int IntKind.i32) (.int IntKind.i32))))), (15, (.ow 0)), (94, (.ow 1)), (95, (.int IntKind.i64)), (96, (.int IntKind.i64))], [(15, (.int IntKind.i32)), (94, (.slice (.st (.pair (.int IntKind.i32) (.int IntKind.i32)))))], []⟩, [((.exit 4), ⟨[(0, (.slice (.st (.pair (.int IntKind.i32) (.int IntKind.i32))))), (1, (.slice (.st (.pair (.int IntKind.i32) (.int IntKind.i32))))), (7, (.slice (.st (.pair (.int IntKind.i32) (.int IntKind.i32))))), (8, (.slice (.st (.pair (.int IntKind.i32) (.int IntKind.i32))))), (9, (.slice (.st (.pair (.int IntKind.i32) (.int IntKind.i32))))), (10, (.slice (.st (.pair (.int IntKind.i32) (.int IntKind.i32))))), (15, (.ow 0))], [(15, (.int IntKind.i32))], []⟩)]⟩ else if i = 19 then some ⟨⟨[(0, (.slice (.st (.pair (.int IntKind.i32) (.int IntKind.i32))))), (1, (.slice (.st (.pair (.int IntKind.i32) (.int IntKind.i32))))), (7, (.slice (.st (.pair (.int IntKind.i32) (.int IntKind.i32))))), (8, (.slice (.st (.pair (.int IntKind.i32) (.int IntKind.i32))))), (9, (.slice (.st (.pair (.int IntKind.i32) (.int IntKind.i32))))), (10, (.slice (.st (.pair (.int IntKind.i32) (.int IntKind.i32))))), (15, (.ow 0)), (94, (.ow 1)), (95, (.int IntKind.i64)), (96, (.int IntKind.i64)), (100, (.slice (.st (.pair (.int IntKind.i32) (.int IntKind.i32))))), (101, (.int IntKind.i64)), (102, (.int IntKind.i64))], [(15, (.int IntKind.i32)), (94, (.slice (.st (.pair (.int IntKind.i32) (.int IntKind.i32)))))], []⟩, [((.exit 6), ⟨[(0, (.slice (.st (.pair (.int IntKind.i32) (.int IntKind.i32))))), (1, (.slice (.st (.pair (.int IntKind.i32) (.int IntKind.i32))))), (7, (.slice (.st (.pair (.int IntKind.i32) (.int IntKind.i32))))), (8, (.slice (.st (.pair (.int IntKind.i32) (.int IntKind.i32))))), (9, (.slice (.st (.pair (.int IntKind.i32) (.int IntKind.i32))))), (10, (.slice (.st (.pair (.int IntKind.i32) (.int IntKind.i32))))), (15, (.ow 0)), (94, (.ow 1)), (95, (.int IntKind.i64)), (96, (.int IntKind.i64))], [(15, (.int IntKind.i32)), (94, (.slice (.st (.pair (.int IntKind.i32) (.int IntKind.i32)))))], []⟩)]⟩ else if i = 1040014 then some ⟨⟨[], [], []⟩, [(.ret, ⟨[(6, .bool)], [], []⟩), (.normal, ⟨[(0, (.slice (.st (.pair (.int IntKind.i32) (.int IntKind.i32))))), (1, (.slice (.st (.pair (.int IntKind.i32) (.int IntKind.i32))))), (2, (.slice (.int IntKind.i32))), (7, (.slice (.st (.pair (.int IntKind.i32) (.int IntKind.i32))))), (8, (.slice (.st (.pair (.int IntKind.i32) (.int IntKind.i32))))), (9, (.slice (.st (.pair (.int IntKind.i32) (.int IntKind.i32))))), (10, (.slice (.st (.pair (.int IntKind.i32) (.int IntKind.i32)))))], [], []⟩)]⟩ else if i = 5 then some ⟨⟨[(0, (.slice (.st (.pair (.int IntKind.i32) (.int IntKind.i32))))), (1, (.slice (.st (.pair (.int IntKind.i32) (.int IntKind.i32))))), (2, (.slice (.int IntKind.i32))), (7, (.slice (.st (.pair (.int IntKind.i32) (.int IntKind.i32))))), (8, (.slice (.st (.pair (.int IntKind.i32) (.int IntKind.i32))))), (9, (.slice (.st (.pair (.int IntKind.i32) (.int IntKind.i32))))), (10, (.slice (.st (.pair (.int IntKind.i32) (.int IntKind.i32))))), (43, (.ow 0)), (44, (.int IntKind.i64)), (45, (.int IntKind.i64))], [(43, (.slice (.st (.pair (.int IntKind.i32) (.int IntKind.i32)))))], []⟩, [(.ret, ⟨[(6, .bool)], [], []⟩), ((.exit 0), ⟨[(0, (.slice (.st (.pair (.int IntKind.i32) (.int IntKind.i32))))), (1, (.slice (.st (.pair (.int IntKind.i32) (.int IntKind.i32))))), (2, (.slice (.int IntKind.i32))), (7, (.slice (.st (.pair (.int IntKind.i32) (.int IntKind.i32))))), (8, (.slice (.st (.pair (.int IntKind.i32) (.int IntKind.i32))))), (9, (.slice (.st (.pair (.int IntKind.i32) (.int IntKind.i32))))), (10, (.slice (.st (.pair (.int IntKind.i32) (.int IntKind.i32)))))], [], []⟩)]⟩ else if i = 8 then some ⟨⟨[(0, (.slice (.st (.pair (.int IntKind.i32) (.int IntKind.i32))))), (1, (.slice (.st (.pair (.int IntKind.i32) (.int IntKind.i32))))), (2, (.slice (.int IntKind.i32))), (7, (.slice (.st (.pair (.int IntKind.i32) (.int IntKind.i32))))), (8, (.slice (.st (.pair (.int IntKind.i32) (.int IntKind.i32))))), (9, (.slice (.st (.pair (.int IntKind.i32) (.int IntKind.i32))))), (10, (.slice (.st (.pair (.int IntKind.i32) (.int IntKind.i32))))), (12, (.slice (.st (.pair (.int IntKind.i32) (.int IntKind.i32))))), (43, (.ow 0)), (44, (.int IntKind.i64)), (45, (.int IntKind.i64)), (49, (.slice (.st (.pair (.int IntKind.i32) (.int IntKind.i32))))), (50, (.int IntKind.i64)), (51, (.int IntKind.i64))], [(43, (.slice (.st (.pair (.int IntKind.i32) (.int IntKind.i32)))))], []⟩, [(.ret, ⟨[(6, .bool)], [], []⟩), ((.exit 2), ⟨[(0, (.slice (.st (.pair (.int IntKind.i32) (.int IntKind.i32))))), (1, (.slice (.st (.pair (.int IntKind.i32) (.int IntKind.i32))))), (2, (.slice (.int IntKind.i32))), (7, (.slice (.st (.pair (.int IntKind.i32) (.int IntKind.i32))))), (8, (.slice (.st (.pair (.int IntKind.i32) (.int IntKind.i32))))), (9, (.slice (.st (.pair (.int IntKind.i32) (.int IntKind.i32))))), (10, (.slice (.st (.pair (.int IntKind.i32) (.int IntKind.i32))))), (43, (.ow 0)), (44, (.int IntKind.i64)), (45, (.int IntKind.i64))], [(43, (.slice (.st (.pair (.int IntKind.i32) (.int IntKind.i32)))))], []⟩)]⟩ else if i = 1010003 then some ⟨⟨[], [], []⟩, [(.ret, ⟨[(6, .bool)], [], []⟩), (.normal, ⟨[(0, (.slice (.st (.pair (.int IntKind.i32) (.int IntKind.i32))))), (1, (.slice (.st (.pair (.int IntKind.i32) (.int IntKind.i32))))), (2, (.slice (.int IntKind.i32)))], [], []⟩)]⟩ else none
def lMembers_g : List (Nat × Ctr) := [(13, rNorm_c), (17, rUnion_c), (19, rMeet_c), (21, rMinus_c), (23, rNot_c), (25, refHas_c), (26, rHas_c), (10, fixed_c)]
theorem lMembers_eq (v : PDen lMembers_c.ps) : semF tbl (gam lMembers_g) lMembers_h fuelN 194 (bodyOf Try.f5) lMembers_c.ps lMembers_c.rs [6] v = lMembers_c.g v := by kernel_rfl

/- 6: trema/tremalaw05.RsetAlgebra -/
def lAlgebra (p0 : List (Int × Int)) (p1 : List (Int × Int)) (p2 : List (Int × Int)) : Option (Unit × (Bool × Unit)) :=
 (Option.bind (show Option (((Bool × Unit) × Unit) ⊕ ((List (Int × Int) × (List (Int × Int) × (List (Int × Int) × Unit))) × Unit)) from
 (Option.bind (fixed) fun r2 =>
 bif (!r2.2.1) then
 some (.inl ((false, ()), ()))
 else
 some (.inr ((p0, (p1, (p2, ()))), ())))) fun y3 =>
 (match y3 with
 | .inl y3 =>
 some ((), (y3.1.1, ()))
 | .inr y3 =>
 (Option.bind (rUnion y3.1.1 y3.1.2.1) fun r4 =>
 (Option.bind (rMeet y3.1.1 y3.1.2.1) fun r5 =>
 (Option.bind (rNot y3.1.1) fun r6 =>
 (Option.bind (rNot r6.2.1) fun r7 =>
 (Option.bind (rEqual r7.2.1 y3.1.1) fun r8 =>
 bif r8.2.1 then
 (Option.bind (rNot y3.1.1) fun r9 =>
 (Option.bind (rNot r9.2.1) fun r10 =>
 (Option.bind (rNorm y3.1.1) fun r11 =>
 (Option.bind (refSame r10.2.1 r11.2.1) fun r12 =>
 bif r12.2.1 then
 (Option.bind (rNot r4.2.1) fun r13 =>
 (Option.bind (rNot y3.1.1) fun r14 =>
 (Option.bind (rNot y3.1.2.1) fun r15 =>
 (Option.bind (rMeet r14.2.1 r15.2.1) fun r16 =>
 (Option.bind (rEqual r13.2.1 r16.2.1) fun r17 =>
 bif r17.2.1 then
 (Option.bind (rMinus y3.1.1 y3.1.2.1) fun r18 =>
 (Option.bind (rNot y3.1.2.1) fun r19 =>
 (Option.bind (rMeet y3.1.1 r19.2.1) fun r20 =>
 (Option.bind (rEqual r18.2.1 r20.2.1) fun r21 =>
 bif r21.2.1 then
 (Option.bind (rCount r4.2.1) fun r22 =>
 (Option.bind (rCount r5.2.1) fun r23 =>
 (Option.bind (rCount y3.1.1) fun r24 =>
 (Option.bind (rCount y3.1.2.1) fun r25 =>
 let v26 := ((IntKind.i64.wrap (r22.2.1 + r23.2.1)) == (IntKind.i64.wrap (r24.2.1 + r25.2.1)))
 bif v26 then
 (Option.bind (rUnion r5.2.1 y3.1.2.2.1) fun r27 =>
 (Option.bind (rUnion y3.1.1 y3.1.2.2.1) fun r28 =>
 (Option.bind (rUnion y3.1.2.1 y3.1.2.2.1) fun r29 =>
 (Option.bind (rMeet r28.2.1 r29.2.1) fun r30 =>
 (Option.bind (rEqual r27.2.1 r30.2.1) fun r31 =>
 bif r31.2.1 then
 (Option.bind (rUnion y3.1.2.1 y3.1.1) fun r32 =>
 (Option.bind (rEqual r4.2.1 r32.2.1) fun r33 =>
 bif r33.2.1 then
 (Option.bind (rCount y3.1.1) fun r34 =>
 (Option.bind (rNot y3.1.1) fun r35 =>
 (Option.bind (rCount r35.2.1) fun r36 =>
 some ((), (((IntKind.i64.wrap (r34.2.1 + r36.2.1)) == (1114112 : Int)), ())))))
 else
 some ((), (false, ()))))
 else
 some ((), (false, ())))))))
 else
 some ((), (false, ()))))))
 else
 some ((), (false, ()))))))
 else
 some ((), (false, ())))))))
 else
 some ((), (false, ()))))))
 else
 some ((), (false, ())))))))))


def lAlgebra_c : Ctr := ⟨[.ro (.slice (.st (.pair (.int IntKind.i32) (.int IntKind.i32)))), .ro (.slice (.st (.pair (.int IntKind.i32) (.int IntKind.i32)))), .ro (.slice (.st (.pair (.int IntKind.i32) (.int IntKind.i32))))], [.val .bool], fun v => lAlgebra v.1 v.2.1 v.2.2.1⟩
def lAlgebra_h : Nat → Option LH := fun i => if i = 1010003 then some ⟨⟨[], [], []⟩, [(.ret, ⟨[(6, .bool)], [], []⟩), (.normal, ⟨[(0, (.slice (.st (.pair (.int IntKind.i32) (.int IntKind.i32))))), (1, (.slice (.st (.pair (.int IntKind.i32) (.int IntKind.i32))))), (2, (.slice (.st (.pair (.int IntKind.i32) (.int IntKind.i32)))))], [], []⟩)]⟩ else none
def lAlgebra_g : List (Nat × Ctr) := [(12, refSame_c), (13, rNorm_c), (15, rCount_c), (16, rEqual_c), (17, rUnion_c), (19, rMeet_c), (21, rMinus_c), (23, rNot_c), (10, fixed_c)]
theorem lAlgebra_eq (v : PDen lAlgebra_c.ps) : semF tbl (gam lAlgebra_g) lAlgebra_h fuelN 92 (bodyOf Try.f6) lAlgebra_c.ps lAlgebra_c.rs [6] v = lAlgebra_c.g v := by kernel_rfl

/- 9: trema/tremalaw05.RsetPoints -/
def lPoints_s6 (a0 : List Int) (a1 : List Int) (a21 : List Int) (a22 : Int) (a23 : Int) (g5 : List (Int × Int)) : Option (((List Int × (List Int × (List Int × (Int × (Int × Unit))))) × (List (Int × Int) × Unit)) ⊕ ((List Int × (List Int × Unit)) × (List (Int × Int) × Unit))) :=
 bif (decide (a23 < a22)) then
 (Option.bind (lk a21 a23) fun x7 =>
 bif (roomOk (g5.length + [(x7, x7)].length) 8) then
 some (.inl ((a0, (a1, (a21, (a22, ((IntKind.i64.wrap (a23 + (1 : Int))), ()))))), ((g5 ++ [(x7, x7)]), ())))
 else none)
 else
 some (.inr ((a0, (a1, ())), (g5, ())))

def lPoints_s18 (a0 : List Int) (a1 : List Int) (a8 : Int) (a10 : Int) (a11 : Bool) (a34 : List Int) (a35 : Int) (a36 : Int) (a49 : List Int) (a50 : Int) (a51 : Int) (g5 : List (Int × Int)) : Option (((List Int × (List Int × (Int × (Int × (Bool × (List Int × (Int × (Int × (List Int × (Int × (Int × Unit))))))))))) × (List (Int × Int) × Unit)) ⊕ ((List Int × (List Int × (Int × (Bool × (List Int × (Int × (Int × Unit))))))) × (List (Int × Int) × Unit))) :=
 bif (decide (a51 < a50)) then
 (Option.bind (lk a49 a51) fun x19 =>
 bif a11 then
 some (.inl ((a0, (a1, (a8, (a10, ((x19 != a10), (a34, (a35, (a36, (a49, (a50, ((IntKind.i64.wrap (a51 + (1 : Int))), ()))))))))))), (g5, ())))
 else
 some (.inl ((a0, (a1, (a8, (a10, (false, (a34, (a35, (a36, (a49, (a50, ((IntKind.i64.wrap (a51 + (1 : Int))), ()))))))))))), (g5, ()))))
 else
 some (.inr ((a0, (a1, (a8, (a11, (a34, (a35, (a36, ()))))))), (g5, ())))

def lPoints_s12 (a0 : List Int) (a1 : List Int) (a8 : Int) (a34 : List Int) (a35 : Int) (a36 : Int) (g5 : List (Int × Int)) : Option (((List Int × (List Int × (Int × (List Int × (Int × (Int × Unit)))))) × (List (Int × Int) × Unit)) ⊕ ((List Int × (List Int × (Int × Unit))) × (List (Int × Int) × Unit))) :=
 bif (decide (a36 < a35)) then
 (Option.bind (lk a34 a36) fun x13 =>
 (Option.bind (show Option ((List Int × (List Int × (Int × (Int × (Int × (Bool × (List Int × (Int × (Int × Unit))))))))) × (List (Int × Int) × Unit)) from
 bif (decide (x13 ≥ (0 : Int))) then
 some ((a0, (a1, (a8, (a36, (x13, ((decide (x13 ≤ (1114111 : Int))), (a34, (a35, (a36, ()))))))))), (g5, ()))
 else
 some ((a0, (a1, (a8, (a36, (x13, (false, (a34, (a35, (a36, ()))))))))), (g5, ()))) fun y15 =>
 (Option.bind (show Option ((List Int × (List Int × (Int × (Bool × (List Int × (Int × (Int × Unit))))))) × (List (Int × Int) × Unit)) from
 bif (inB (0 : Int) y15.1.2.2.2.1 y15.1.1.length) then
 (Option.bind (iterN (fun x => lPoints_s18 x.1.1 x.1.2.1 x.1.2.2.1 x.1.2.2.2.1 x.1.2.2.2.2.1 x.1.2.2.2.2.2.1 x.1.2.2.2.2.2.2.1 x.1.2.2.2.2.2.2.2.1 x.1.2.2.2.2.2.2.2.2.1 x.1.2.2.2.2.2.2.2.2.2.1 x.1.2.2.2.2.2.2.2.2.2.2.1 x.2.1) fuelN ((y15.1.1, (y15.1.2.1, (y15.1.2.2.1, (y15.1.2.2.2.2.1, (y15.1.2.2.2.2.2.1, (y15.1.2.2.2.2.2.2.1, (y15.1.2.2.2.2.2.2.2.1, (y15.1.2.2.2.2.2.2.2.2.1, ((cut y15.1.1 (0 : Int) y15.1.2.2.2.1), (((cut y15.1.1 (0 : Int) y15.1.2.2.2.1).length : Int), ((0 : Int), ()))))))))))), (y15.2.1, ()))) fun y20 =>
 some ((y20.1.1, (y20.1.2.1, (y20.1.2.2.1, (y20.1.2.2.2.1, (y20.1.2.2.2.2.1, (y20.1.2.2.2.2.2.1, (y20.1.2.2.2.2.2.2.1, ()))))))), (y20.2.1, ())))
 else none) fun y21 =>
 bif y21.1.2.2.2.1 then
 some (.inl ((y21.1.1, (y21.1.2.1, ((IntKind.i64.wrap (y21.1.2.2.1 + (1 : Int))), (y21.1.2.2.2.2.1, (y21.1.2.2.2.2.2.1, ((IntKind.i64.wrap (y21.1.2.2.2.2.2.2.1 + (1 : Int))), ())))))), (y21.2.1, ())))
 else
 some (.inl ((y21.1.1, (y21.1.2.1, (y21.1.2.2.1, (y21.1.2.2.2.2.1, (y21.1.2.2.2.2.2.1, ((IntKind.i64.wrap (y21.1.2.2.2.2.2.2.1 + (1 : Int))), ())))))), (y21.2.1, ()))))))
 else
 some (.inr ((a0, (a1, (a8, ()))), (g5, ())))

def lPoints_s32 (a0 : List Int) (a5 : List (Int × Int)) (a8 : Int) (a15 : Int) (a16 : Bool) (a71 : Int) (a72 : Int) (a76 : List Int) (a77 : Int) (a78 : Int) (g70 : List Int) : Option (((List Int × (List (Int × Int) × (Int × (Int × (Bool × (Int × (Int × (List Int × (Int × (Int × Unit)))))))))) × (List Int × Unit)) ⊕ ((List Int × (List (Int × Int) × (Int × (Int × (Bool × (Int × (Int × Unit))))))) × (List Int × Unit))) :=
 bif (decide (a78 < a77)) then
 (Option.bind (lk a76 a78) fun x33 =>
 bif a16 then
 some (.inl ((a0, (a5, (a8, (a15, (true, (a71, (a72, (a76, (a77, ((IntKind.i64.wrap (a78 + (1 : Int))), ())))))))))), (g70, ())))
 else
 bif (x33 == a15) then
 bif (decide (a15 ≥ (0 : Int))) then
 some (.inl ((a0, (a5, (a8, (a15, ((decide (a15 ≤ (1114111 : Int))), (a71, (a72, (a76, (a77, ((IntKind.i64.wrap (a78 + (1 : Int))), ())))))))))), (g70, ())))
 else
 some (.inl ((a0, (a5, (a8, (a15, (false, (a71, (a72, (a76, (a77, ((IntKind.i64.wrap (a78 + (1 : Int))), ())))))))))), (g70, ())))
 else
 some (.inl ((a0, (a5, (a8, (a15, (false, (a71, (a72, (a76, (a77, ((IntKind.i64.wrap (a78 + (1 : Int))), ())))))))))), (g70, ()))))
 else
 some (.inr ((a0, (a5, (a8, (a15, (a16, (a71, (a72, ()))))))), (g70, ())))

def lPoints_s27 (a0 : List Int) (a5 : List (Int × Int)) (a8 : Int) (a71 : Int) (a72 : Int) (g70 : List Int) : Option (((List Int × (List (Int × Int) × (Int × (Int × (Int × Unit))))) × (List Int × Unit)) ⊕ (((Bool × Unit) × Unit) ⊕ ((List (Int × Int) × (Int × Unit)) × Unit))) :=
 bif (decide (a72 < a71)) then
 (Option.bind (lk g70 a72) fun _x28 =>
 (Option.bind (lk g70 a72) fun x29 =>
 (Option.bind (show Option ((List Int × (List (Int × Int) × (Int × (Int × (Bool × (Int × (Int × Unit))))))) × (List Int × Unit)) from
 (Option.bind (iterN (fun x => lPoints_s32 x.1.1 x.1.2.1 x.1.2.2.1 x.1.2.2.2.1 x.1.2.2.2.2.1 x.1.2.2.2.2.2.1 x.1.2.2.2.2.2.2.1 x.1.2.2.2.2.2.2.2.1 x.1.2.2.2.2.2.2.2.2.1 x.1.2.2.2.2.2.2.2.2.2.1 x.2.1) fuelN ((a0, (a5, (a8, (x29, (false, (a71, (a72, (a0, ((a0.length : Int), ((0 : Int), ())))))))))), (g70, ()))) fun y34 =>
 some ((y34.1.1, (y34.1.2.1, (y34.1.2.2.1, (y34.1.2.2.2.1, (y34.1.2.2.2.2.1, (y34.1.2.2.2.2.2.1, (y34.1.2.2.2.2.2.2.1, ()))))))), (y34.2.1, ())))) fun y35 =>
 (Option.bind (rNorm y35.1.2.1) fun r36 =>
 (Option.bind (rHas r36.2.1 y35.1.2.2.2.1) fun r37 =>
 bif (!(r37.2.1 == y35.1.2.2.2.2.1)) then
 some (.inr (.inl ((false, ()), ())))
 else
 some (.inl ((y35.1.1, (y35.1.2.1, (y35.1.2.2.1, (y35.1.2.2.2.2.2.1, ((IntKind.i64.wrap (y35.1.2.2.2.2.2.2.1 + (1 : Int))), ()))))), (y35.2.1, ()))))))))
 else
 some (.inr (.inr ((a5, (a8, ())), ())))

def lPoints (p0 : List Int) (p1 : List Int) : Option (Unit × (Bool × Unit)) :=
 (Option.bind (show Option (((Bool × Unit) × Unit) ⊕ ((List Int × (List Int × Unit)) × Unit)) from
 (Option.bind (fixed) fun r2 =>
 bif (!r2.2.1) then
 some (.inl ((false, ()), ()))
 else
 some (.inr ((p0, (p1, ())), ())))) fun y3 =>
 (match y3 with
 | .inl y3 =>
 some ((), (y3.1.1, ()))
 | .inr y3 =>
 (Option.bind (show Option ((List Int × (List Int × Unit)) × (List (Int × Int) × Unit)) from
 (Option.bind (iterN (fun x => lPoints_s6 x.1.1 x.1.2.1 x.1.2.2.1 x.1.2.2.2.1 x.1.2.2.2.2.1 x.2.1) fuelN ((y3.1.1, (y3.1.2.1, (y3.1.1, ((y3.1.1.length : Int), ((0 : Int), ()))))), (([] : List (Int × Int)), ()))) fun y8 =>
 some ((y8.1.1, (y8.1.2.1, ())), (y8.2.1, ())))) fun y9 =>
 (Option.bind (show Option ((List Int × (List Int × (Int × Unit))) × (List (Int × Int) × Unit)) from
 (Option.bind (iterN (fun x => lPoints_s12 x.1.1 x.1.2.1 x.1.2.2.1 x.1.2.2.2.1 x.1.2.2.2.2.1 x.1.2.2.2.2.2.1 x.2.1) fuelN ((y9.1.1, (y9.1.2.1, ((0 : Int), (y9.1.1, ((y9.1.1.length : Int), ((0 : Int), ())))))), (y9.2.1, ()))) fun y22 =>
 some ((y22.1.1, (y22.1.2.1, (y22.1.2.2.1, ()))), (y22.2.1, ())))) fun y23 =>
 (Option.bind (show Option (((Bool × Unit) × Unit) ⊕ ((List (Int × Int) × (Int × Unit)) × Unit)) from
 bif (roomOk (([] : List Int).length + y23.1.2.1.length) 4) then
 bif (roomOk ((([] : List Int) ++ y23.1.2.1).length + y23.1.1.length) 4) then
 (Option.bind (iterN (fun x => lPoints_s27 x.1.1 x.1.2.1 x.1.2.2.1 x.1.2.2.2.1 x.1.2.2.2.2.1 x.2.1) fuelN ((y23.1.1, (y23.2.1, (y23.1.2.2.1, ((((([] : List Int) ++ y23.1.2.1) ++ y23.1.1).length : Int), ((0 : Int), ()))))), (((([] : List Int) ++ y23.1.2.1) ++ y23.1.1), ()))) fun y38 =>
 (match y38 with
 | .inl y38 =>
 some (.inl ((y38.1.1, ()), ()))
 | .inr y38 =>
 some (.inr ((y38.1.1, (y38.1.2.1, ())), ()))))
 else none
 else none) fun y39 =>
 (match y39 with
 | .inl y39 =>
 some ((), (y39.1.1, ()))
 | .inr y39 =>
 (Option.bind (rCount y39.1.1) fun r40 =>
 some ((), ((r40.2.1 == y39.1.2.1), ())))))))))


def lPoints_c : Ctr := ⟨[.ro (.slice (.int IntKind.i32)), .ro (.slice (.int IntKind.i32))], [.val .bool], fun v => lPoints v.1 v.2.1⟩
def lPoints_h : Nat → Option LH := fun i => if i = 1220034 then some ⟨⟨[], [], []⟩, [(.ret, ⟨[(4, .bool)], [], []⟩), (.normal, ⟨[(5, (.slice (.st (.pair (.int IntKind.i32) (.int IntKind.i32))))), (8, (.int IntKind.i64))], [], []⟩)]⟩ else if i = 23 then some ⟨⟨[(0, (.slice (.int IntKind.i32))), (5, (.slice (.st (.pair (.int IntKind.i32) (.int IntKind.i32))))), (8, (.int IntKind.i64)), (70, (.ow 0)), (71, (.int IntKind.i64)), (72, (.int IntKind.i64))], [(70, (.int IntKind.i32))], []⟩, [(.ret, ⟨[(4, .bool)], [], []⟩), ((.exit 6), ⟨[(5, (.slice (.st (.pair (.int IntKind.i32) (.int IntKind.i32))))), (8, (.int IntKind.i64))], [], []⟩)]⟩ else if i = 1260031 then some ⟨⟨[], [], []⟩, [(.normal, ⟨[(0, (.slice (.int IntKind.i32))), (5, (.slice (.st (.pair (.int IntKind.i32) (.int IntKind.i32))))), (8, (.int IntKind.i64)), (15, (.int IntKind.i32)), (16, .bool), (70, (.ow 0)), (71, (.int IntKind.i64)), (72, (.int IntKind.i64))], [(70, (.int IntKind.i32))], []⟩)]⟩ else if i = 27 then some ⟨⟨[(0, (.slice (.int IntKind.i32))), (5, (.slice (.st (.pair (.int IntKind.i32) (.int IntKind.i32))))), (8, (.int IntKind.i64)), (15, (.int IntKind.i32)), (16, .bool), (70, (.ow 0)), (71, (.int IntKind.i64)), (72, (.int IntKind.i64)), (76, (.slice (.int IntKind.i32))), (77, (.int IntKind.i64)), (78, (.int IntKind.i64))], [(70, (.int IntKind.i32))], []⟩, [((.exit 8), ⟨[(0, (.slice (.int IntKind.i32))), (5, (.slice (.st (.pair (.int IntKind.i32) (.int IntKind.i32))))), (8, (.int IntKind.i64)), (15, (.int IntKind.i32)), (16, .bool), (70, (.ow 0)), (71, (.int IntKind.i64)), (72, (.int IntKind.i64))], [(70, (.int IntKind.i32))], []⟩)]⟩ else if i = 1100022 then some ⟨⟨[], [], []⟩, [(.normal, ⟨[(0, (.slice (.int IntKind.i32))), (1, (.slice (.int IntKind.i32))), (5, (.ow 0)), (8, (.int IntKind.i64))], [(5, (.st (.pair (.int IntKind.i32) (.int IntKind.i32))))], []⟩)]⟩ else if i = 11 then some ⟨⟨[(0, (.slice (.int IntKind.i32))), (1, (.slice (.int IntKind.i32))), (5, (.ow 0)), (8, (.int IntKind.i64)), (34, (.slice (.int IntKind.i32))), (35, (.int IntKind.i64)), (36, (.int IntKind.i64))], [(5, (.st (.pair (.int IntKind.i32) (.int IntKind.i32))))], []⟩, [((.exit 2), ⟨[(0, (.slice (.int IntKind.i32))), (1, (.slice (.int IntKind.i32))), (5, (.ow 0)), (8, (.int IntKind.i64))], [(5, (.st (.pair (.int IntKind.i32) (.int IntKind.i32))))], []⟩)]⟩ else if i = 1140019 then some ⟨⟨[], [], []⟩, [(.normal, ⟨[(0, (.slice (.int IntKind.i32))), (1, (.slice (.int IntKind.i32))), (5, (.ow 0)), (8, (.int IntKind.i64)), (11, .bool), (34, (.slice (.int IntKind.i32))), (35, (.int IntKind.i64)), (36, (.int IntKind.i64))], [(5, (.st (.pair (.int IntKind.i32) (.int IntKind.i32))))], []⟩)]⟩ else if i = 15 then some ⟨⟨[(0, (.slice (.int IntKind.i32))), (1, (.slice (.int IntKind.i32))), (5, (.ow 0)), (8, (.int IntKind.i64)), (10, (.int IntKind.i32)), (11, .bool), (34, (.slice (.int IntKind.i32))), (35, (.int IntKind.i64)), (36, (.int IntKind.i64)), (49, (.slice (.int IntKind.i32))), (50, (.int IntKind.i64)), (51, (.int IntKind.i64))], [(5, (.st (.pair (.int IntKind.i32) (.int IntKind.i32))))], []⟩, [((.exit 4), ⟨[(0, (.slice (.int IntKind.i32))), (1, (.slice (.int IntKind.i32))), (5, (.ow 0)), (8, (.int IntKind.i64)), (11, .bool), (34, (.slice (.int IntKind.i32))), (35, (.int IntKind.i64)), (36, (.int IntKind.i64))], [(5, (.st (.pair (.int IntKind.i32) (.int IntKind.i32))))], []⟩)]⟩ else if i = 1130014 then some ⟨⟨[], [], []⟩, [(.normal, ⟨[(0, (.slice (.int IntKind.i32))), (1, (.slice (.int IntKind.i32))), (5, (.ow 0)), (8, (.int IntKind.i64)), (9, (.int IntKind.i64)), (10, (.int IntKind.i32)), (11, .bool), (34, (.slice (.int IntKind.i32))), (35, (.int IntKind.i64)), (36, (.int IntKind.i64))], [(5, (.st (.pair (.int IntKind.i32) (.int IntKind.i32))))], []⟩)]⟩ else if i = 1040009 then some ⟨⟨[], [], []⟩, [(.normal, ⟨[(0, (.slice (.int IntKind.i32))), (1, (.slice (.int IntKind.i32))), (5, (.ow 0))], [(5, (.st (.pair (.int IntKind.i32) (.int IntKind.i32))))], []⟩)]⟩ else if i = 5 then some ⟨⟨[(0, (.slice (.int IntKind.i32))), (1, (.slice (.int IntKind.i32))), (5, (.ow 0)), (21, (.slice (.int IntKind.i32))), (22, (.int IntKind.i64)), (23, (.int IntKind.i64))], [(5, (.st (.pair (.int IntKind.i32) (.int IntKind.i32))))], []⟩, [((.exit 0), ⟨[(0, (.slice (.int IntKind.i32))), (1, (.slice (.int IntKind.i32))), (5, (.ow 0))], [(5, (.st (.pair (.int IntKind.i32) (.int IntKind.i32))))], []⟩)]⟩ else if i = 1010003 then some ⟨⟨[], [], []⟩, [(.ret, ⟨[(4, .bool)], [], []⟩), (.normal, ⟨[(0, (.slice (.int IntKind.i32))), (1, (.slice (.int IntKind.i32)))], [], []⟩)]⟩ else none
def lPoints_g : List (Nat × Ctr) := [(13, rNorm_c), (15, rCount_c), (26, rHas_c), (10, fixed_c)]
theorem lPoints_eq (v : PDen lPoints_c.ps) : semF tbl (gam lPoints_g) lPoints_h fuelN 108 (bodyOf Try.f9) lPoints_c.ps lPoints_c.rs [4] v = lPoints_c.g v := by kernel_rfl

/- 8: trema/tremalaw05.RsetOrders -/
def lOrders_s13 (a2 : Int) (a7 : List (Int × Int)) (a46 : Int) (a47 : Int) (g9 : List (Int × Int)) (g10 : List (Int × Int)) : Option (((Int × (List (Int × Int) × (Int × (Int × Unit)))) × (List (Int × Int) × (List (Int × Int) × Unit))) ⊕ ((List (Int × Int) × Unit) × (List (Int × Int) × (List (Int × Int) × Unit)))) :=
 bif (decide (a47 < a46)) then
 (Option.bind (lk g9 a47) fun _x14 =>
 (Option.bind (lk g9 a47) fun x15 =>
 (Option.bind (show Option ((Int × (List (Int × Int) × (Int × (Int × (Int × (Bool × Unit)))))) × (List (Int × Int) × (List (Int × Int) × (List (Int × Int) × Unit)))) from
 bif (decide (x15.1 ≤ a2)) then
 some ((a2, (a7, ((0 : Int), (a46, (a47, ((decide (a2 < x15.2)), ())))))), (g9, (g10, ([x15], ()))))
 else
 some ((a2, (a7, ((0 : Int), (a46, (a47, (false, ())))))), (g9, (g10, ([x15], ()))))) fun y17 =>
 bif y17.1.2.2.2.2.2.1 then
 (Option.bind (lk y17.2.2.2.1 y17.1.2.2.1) fun x18 =>
 (Option.bind (lk y17.2.2.2.1 y17.1.2.2.1) fun x19 =>
 bif (roomOk (y17.2.2.1.length + [((IntKind.i32.wrap (y17.1.1 + (1 : Int))), x18.2), (x19.1, y17.1.1)].length) 8) then
 let l20 := (y17.2.2.1 ++ [((IntKind.i32.wrap (y17.1.1 + (1 : Int))), x18.2), (x19.1, y17.1.1)])
 some (.inl ((y17.1.1, (y17.1.2.1, (y17.1.2.2.2.1, ((IntKind.i64.wrap (y17.1.2.2.2.2.1 + (1 : Int))), ())))), (y17.2.1, (l20, ()))))
 else none))
 else
 (Option.bind (lk y17.2.2.2.1 y17.1.2.2.1) fun x21 =>
 bif (roomOk (y17.2.2.1.length + [x21].length) 8) then
 some (.inl ((y17.1.1, (y17.1.2.1, (y17.1.2.2.2.1, ((IntKind.i64.wrap (y17.1.2.2.2.2.1 + (1 : Int))), ())))), (y17.2.1, ((y17.2.2.1 ++ [x21]), ()))))
 else none))))
 else
 some (.inr ((a7, ()), (g9, (g10, ()))))

def lOrders (p0 : List (Int × Int)) (p1 : Int) (p2 : Int) : Option (Unit × (Bool × Unit)) :=
 (Option.bind (show Option (((Bool × Unit) × Unit) ⊕ ((List (Int × Int) × (Int × (Int × Unit))) × Unit)) from
 (Option.bind (fixed) fun r2 =>
 bif (!r2.2.1) then
 some (.inl ((false, ()), ()))
 else
 some (.inr ((p0, (p1, (p2, ()))), ())))) fun y3 =>
 (match y3 with
 | .inl y3 =>
 some ((), (y3.1.1, ()))
 | .inr y3 =>
 (Option.bind (rNorm y3.1.1) fun r4 =>
 (Option.bind (show Option (((Bool × Unit) × Unit) ⊕ ((List (Int × Int) × (Int × (Int × (List (Int × Int) × Unit)))) × Unit)) from
 bif ((y3.1.1.length : Int) == (0 : Int)) then
 some (.inl ((((r4.2.1.length : Int) == (0 : Int)), ()), ()))
 else
 some (.inr ((y3.1.1, (y3.1.2.1, (y3.1.2.2.1, (r4.2.1, ())))), ()))) fun y6 =>
 (match y6 with
 | .inl y6 =>
 some ((), (y6.1.1, ()))
 | .inr y6 =>
 bif ((IntKind.u64.wrap ((y6.1.1.length : Int))) != 0) then
 let v7 := (Int.tmod (IntKind.u64.wrap (y6.1.2.1)) (IntKind.u64.wrap ((y6.1.1.length : Int))))
 bif (inB (IntKind.i64.wrap (v7)) (y6.1.1.length : Int) y6.1.1.length) then
 bif (roomOk (([] : List (Int × Int)).length + (cut y6.1.1 (IntKind.i64.wrap (v7)) (y6.1.1.length : Int)).length) 8) then
 let l8 := (([] : List (Int × Int)) ++ (cut y6.1.1 (IntKind.i64.wrap (v7)) (y6.1.1.length : Int)))
 bif (inB (0 : Int) (IntKind.i64.wrap (v7)) y6.1.1.length) then
 bif (roomOk (l8.length + (cut y6.1.1 (0 : Int) (IntKind.i64.wrap (v7))).length) 8) then
 (Option.bind (lk y6.1.1 (IntKind.i64.wrap (v7))) fun x9 =>
 bif (roomOk ((l8 ++ (cut y6.1.1 (0 : Int) (IntKind.i64.wrap (v7)))).length + [x9].length) 8) then
 let l10 := ((l8 ++ (cut y6.1.1 (0 : Int) (IntKind.i64.wrap (v7)))) ++ [x9])
 (Option.bind (show Option ((List (Int × Int) × Unit) × (List (Int × Int) × (List (Int × Int) × Unit))) from
 (Option.bind (iterN (fun x => lOrders_s13 x.1.1 x.1.2.1 x.1.2.2.1 x.1.2.2.2.1 x.2.1 x.2.2.1) fuelN ((y6.1.2.2.1, (y6.1.2.2.2.1, ((l10.length : Int), ((0 : Int), ())))), (l10, (([] : List (Int × Int)), ())))) fun y22 =>
 some ((y22.1.1, ()), (y22.2.1, (y22.2.2.1, ()))))) fun y23 =>
 (Option.bind (rNorm y23.2.1) fun r24 =>
 (Option.bind (refSame r24.2.1 y23.1.1) fun r25 =>
 bif r25.2.1 then
 (Option.bind (rNorm y23.2.2.1) fun r26 =>
 (Option.bind (refSame r26.2.1 y23.1.1) fun r27 =>
 some ((), (r27.2.1, ()))))
 else
 some ((), (false, ())))))
 else none)
 else none
 else none
 else none
 else none
 else none)))))


def lOrders_c : Ctr := ⟨[.ro (.slice (.st (.pair (.int IntKind.i32) (.int IntKind.i32)))), .ro (.int IntKind.i64), .ro (.int IntKind.i32)], [.val .bool], fun v => lOrders v.1 v.2.1 v.2.2.1⟩
def lOrders_h : Nat → Option LH := fun i => if i = 1090016 then some ⟨⟨[], [], []⟩, [(.normal, ⟨[(7, (.slice (.st (.pair (.int IntKind.i32) (.int IntKind.i32))))), (9, (.ow 0)), (10, (.ow 1))], [(9, (.st (.pair (.int IntKind.i32) (.int IntKind.i32)))), (10, (.st (.pair (.int IntKind.i32) (.int IntKind.i32))))], []⟩)]⟩ else if i = 10 then some ⟨⟨[(2, (.int IntKind.i32)), (7, (.slice (.st (.pair (.int IntKind.i32) (.int IntKind.i32))))), (9, (.ow 0)), (10, (.ow 1)), (45, (.ow 0)), (46, (.int IntKind.i64)), (47, (.int IntKind.i64))], [(9, (.st (.pair (.int IntKind.i32) (.int IntKind.i32)))), (10, (.st (.pair (.int IntKind.i32) (.int IntKind.i32))))], []⟩, [((.exit 0), ⟨[(7, (.slice (.st (.pair (.int IntKind.i32) (.int IntKind.i32))))), (9, (.ow 0)), (10, (.ow 1))], [(9, (.st (.pair (.int IntKind.i32) (.int IntKind.i32)))), (10, (.st (.pair (.int IntKind.i32) (.int IntKind.i32))))], []⟩)]⟩ else if i = 1120013 then some ⟨⟨[], [], []⟩, [(.normal, ⟨[(2, (.int IntKind.i32)), (7, (.slice (.st (.pair (.int IntKind.i32) (.int IntKind.i32))))), (9, (.ow 0)), (10, (.ow 1)), (12, (.oad 2 0)), (45, (.ow 0)), (46, (.int IntKind.i64)), (47, (.int IntKind.i64)), (60, .bool)], [(9, (.st (.pair (.int IntKind.i32) (.int IntKind.i32)))), (10, (.st (.pair (.int IntKind.i32) (.int IntKind.i32)))), (12, (.st (.pair (.int IntKind.i32) (.int IntKind.i32))))], []⟩)]⟩ else if i = 1040006 then some ⟨⟨[], [], []⟩, [(.ret, ⟨[(6, .bool)], [], []⟩), (.normal, ⟨[(0, (.slice (.st (.pair (.int IntKind.i32) (.int IntKind.i32))))), (1, (.int IntKind.i64)), (2, (.int IntKind.i32)), (7, (.slice (.st (.pair (.int IntKind.i32) (.int IntKind.i32)))))], [], []⟩)]⟩ else if i = 1010003 then some ⟨⟨[], [], []⟩, [(.ret, ⟨[(6, .bool)], [], []⟩), (.normal, ⟨[(0, (.slice (.st (.pair (.int IntKind.i32) (.int IntKind.i32))))), (1, (.int IntKind.i64)), (2, (.int IntKind.i32))], [], []⟩)]⟩ else none
def lOrders_g : List (Nat × Ctr) := [(12, refSame_c), (13, rNorm_c), (10, fixed_c)]
theorem lOrders_eq (v : PDen lOrders_c.ps) : semF tbl (gam lOrders_g) lOrders_h fuelN 88 (bodyOf Try.f8) lOrders_c.ps lOrders_c.rs [6] v = lOrders_c.g v := by kernel_rfl

end
end Go.Vs.Rs
