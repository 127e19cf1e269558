/- Values' functions of the program, printed, and that each body computes its own. -/
import Derived.Test.YthjjbjnfckjohaaGreatVuSort4
import Derived.Test.YthjjbjnfckjohaaGreatProg
set_option linter.unusedVariables false
set_option maxRecDepth 100000
namespace Go.Vu.Sg
noncomputable section
open Go Go.Vu Go.Proofs
def i_less (x y : Int) : Option (Unit × Bool × Unit) := some ((), decide (x < y), ())
def i_less_c : Ctr := ⟨[.ro (.int IntKind.i32), .ro (.int IntKind.i32)], [.val .bool], fun v => i_less v.1 v.2.1⟩
def s_less (x y : List UInt8) : Option (Unit × Bool × Unit) := some ((), Op.bytesLess x y, ())
def s_less_c : Ctr := ⟨[.ro .str, .ro .str], [.val .bool], fun v => s_less v.1 v.2.1⟩
def cmpv (x y : Int) : Int := if x < y then -1 else if x > y then 1 else 0
def c_cmp (p q : Int × Int) : Option (Unit × Int × Unit) := some ((), cmpv p.1 q.1, ())
def c_cmp_c : Ctr := ⟨[.ro (.st (.pair (.int IntKind.i32) (.int IntKind.i32))), .ro (.st (.pair (.int IntKind.i32) (.int IntKind.i32)))], [.val (.int IntKind.i64)], fun v => c_cmp v.1 v.2.1⟩
def c_less (p q : Int × Int) : Option (Unit × Bool × Unit) := some ((), decide (cmpv p.1 q.1 < 0), ())
def i_pdqR_cR (rec : List Int → Int → Int → Int → Option (List Int × Unit)) : Ctr := ⟨[.mu (.vec (.int IntKind.i32)), .ro (.int IntKind.i64), .ro (.int IntKind.i64), .ro (.int IntKind.i64)], [], fun v => rec v.1 v.2.1 v.2.2.1 v.2.2.2.1⟩
def s_pdqR_cR (rec : List (List UInt8) → Int → Int → Int → Option (List (List UInt8) × Unit)) : Ctr := ⟨[.mu (.vec .str), .ro (.int IntKind.i64), .ro (.int IntKind.i64), .ro (.int IntKind.i64)], [], fun v => rec v.1 v.2.1 v.2.2.1 v.2.2.2.1⟩
def c_pdqR_cR (rec : List (Int × Int) → Int → Int → Int → Option (List (Int × Int) × Unit)) : Ctr := ⟨[.mu (.vec (.st (.pair (.int IntKind.i32) (.int IntKind.i32)))), .ro (.int IntKind.i64), .ro (.int IntKind.i64), .ro (.int IntKind.i64), .ro (.clo 52 .unit)], [], fun v => rec v.1 v.2.1 v.2.2.1 v.2.2.2.1⟩
def refSorted_cR (rec : List (Int × Int) → Option (Unit × List (Int × Int) × Unit)) : Ctr := ⟨[.ro (.slice (.st (.pair (.int IntKind.i32) (.int IntKind.i32))))], [.val (.slice (.st (.pair (.int IntKind.i32) (.int IntKind.i32))))], fun v => rec v.1⟩
def sortI (l : List Int) : Option (List Int × Unit) := Srt.sortG (Srt.pdqN i_less (l.length + 1)) l
def sortI_c : Ctr := ⟨[.mu (.vec (.int IntKind.i32))], [], fun v => sortI v.1⟩
def sortS (l : List (List UInt8)) : Option (List (List UInt8) × Unit) := Srt.sortG (Srt.pdqN s_less (l.length + 1)) l
def sortS_c : Ctr := ⟨[.mu (.vec .str)], [], fun v => sortS v.1⟩
def sortF (l : List (Int × Int)) : Option (List (Int × Int) × Unit) := Srt.sortG (Srt.pdqN c_less (l.length + 1)) l
def sortF_c : Ctr := ⟨[.mu (.vec (.st (.pair (.int IntKind.i32) (.int IntKind.i32)))), .ro (.clo 52 .unit)], [], fun v => sortF v.1⟩
abbrev tS := List (Int × Int) × List (Int × Int) × List (List UInt8)
abbrev tN := Int × tS × Int × Int
abbrev tG := List tN
abbrev tW := List (List UInt8)
abbrev tQ := List Int × List Int
abbrev tM := tG × tW × Bool × Bool × tQ × tQ × List Int × Int
abbrev tK := Int × Int × Int × Int
abbrev tT := tW × Int × Int × Int
abbrev tC := List (Int × Int)
abbrev yi64 : Ty := .int IntKind.i64
abbrev yi32 : Ty := .int IntKind.i32
abbrev yu8 : Ty := .int IntKind.u8
abbrev yu64 : Ty := .int IntKind.u64
abbrev y0 : Ty := .st (.pair yi32 yi32)
abbrev y1 : Ty := .st (.pair (.slice y0) (.pair (.slice y0) (.slice .str)))
abbrev y2 : Ty := .st (.pair (.vec y0) (.pair (.vec y0) (.vec .str)))
abbrev y3 : Ty := .bx (.st (.pair .nils (.pair .nils .nils)))
abbrev y4 : Ty := .st (.pair yi32 (.pair yi64 yi64))
abbrev y5 : Ty := .st (.pair (.psl 0) (.pair (.psl 0) (.psl 1)))
def zN (l : List (Nat × Ty)) : EK × Tpl := (.normal, ⟨l, [], []⟩)
def zR (l : List (Nat × Ty)) : EK × Tpl := (.ret, ⟨l, [], []⟩)
def zX (k : Nat) (l : List (Nat × Ty)) : EK × Tpl := (.exit k, ⟨l, [], []⟩)
def zL (l : List (Nat × Ty)) (x : List (EK × Tpl)) : Option LH := some ⟨⟨l, [], []⟩, x⟩
def zC (x : List (EK × Tpl)) : Option LH := zL [] x
abbrev zH := Nat → Option LH
abbrev zG := List (Nat × Ctr)
def h0 : zH := fun _ => none
abbrev s0 : Ty := .slice y0
abbrev s1 : Ty := .slice .str
def tbl : Tab := [
  (3, ⟨1, 8, false, (.int IntKind.i64), (.int IntKind.i64), ((0 : Int) : Int), false⟩),
  (4, ⟨1, 1, false, .bool, .bool, (false : Bool), false⟩),
  (5, ⟨1, 1, false, (.int IntKind.u8), (.int IntKind.u8), ((0 : Int) : Int), false⟩),
  (9, ⟨1, 16, false, .str, .str, (([] : List UInt8) : List UInt8), false⟩),
  (21, ⟨1, 4, false, (.int IntKind.i32), (.int IntKind.i32), ((0 : Int) : Int), false⟩),
  (22, ⟨1, 24, false, (.slice 38), (.slice (.st (.pair yi32 yi32))), (([] : tC) : tC), false⟩),
  (23, ⟨1, 24, false, (.slice 9), (.slice .str), (([] : tW) : tW), false⟩),
  (25, ⟨3, 72, true, (.struct [(0, 22), (1, 22), (2, 23)]), (.st (.pair (.slice (.st (.pair yi32 yi32))) (.pair (.slice (.st (.pair yi32 yi32))) (.slice .str)))), ((([] : tC), ([] : tC), ([] : tW)) : tS), true⟩),
  (36, ⟨1, 24, false, (.slice 25), (.slice (.st (.pair (.slice (.st (.pair yi32 yi32))) (.pair (.slice (.st (.pair yi32 yi32))) (.slice .str))))), (([] : List tS) : List tS), false⟩),
  (38, ⟨2, 8, true, (.struct [(0, 21), (1, 21)]), (.st (.pair yi32 yi32)), (((0 : Int), (0 : Int)) : (Int × Int)), true⟩),
  (44, ⟨1, 24, false, (.slice 21), (.slice yi32), (([] : List Int) : List Int), false⟩),
  (46, ⟨1, 24, false, (.slice 5), (.slice yu8), (([] : List Int) : List Int), false⟩),
  (52, ⟨1, 8, false, .other, .any, (() : Unit), false⟩),
  (57, ⟨1, 24, false, (.slice 60), (.slice (.st (.pair yi32 (.pair yi64 yi64)))), (([] : List (Int × Int × Int)) : List (Int × Int × Int)), false⟩),
  (60, ⟨3, 24, true, (.struct [(0, 21), (1, 3), (2, 3)]), (.st (.pair yi32 (.pair yi64 yi64))), (((0 : Int), (0 : Int), (0 : Int)) : (Int × Int × Int)), true⟩),
  (68, ⟨1, 8, true, (.struct [(0, 52)]), (.st .any), (() : Unit), true⟩),
  (78, ⟨1, 8, false, (.int IntKind.u64), (.int IntKind.u64), ((0 : Int) : Int), false⟩),
  (80, ⟨1, 24, false, (.slice 23), (.slice (.slice .str)), (([] : List tW) : List tW), false⟩),
  (85, ⟨1, 8, false, (.ptr 113), (.ptr (.st (.pair (.slice yu8) (.pair yi64 .bool)))), (none : Option (List Int × Int × Bool)), false⟩),
  (92, ⟨1, 8, false, (.int IntKind.i64), (.int IntKind.i64), ((0 : Int) : Int), false⟩),
  (102, ⟨1, 8, false, (.int IntKind.u64), (.int IntKind.u64), ((0 : Int) : Int), false⟩),
  (109, ⟨1, 24, false, (.slice 22), (.slice (.slice (.st (.pair yi32 yi32)))), (([] : List tC) : List tC), false⟩),
  (113, ⟨3, 40, true, (.struct [(0, 46), (1, 3), (2, 4)]), (.st (.pair (.slice yu8) (.pair yi64 .bool))), ((([] : List Int), (0 : Int), false) : (List Int × Int × Bool)), true⟩),
  (115, ⟨1, 8, false, (.int IntKind.u64), (.int IntKind.u64), ((0 : Int) : Int), false⟩)]
section
variable [Inhabited FuelW]
abbrev EqS (c : Ctr) (g : zG) (h : zH) (n : Nat) (f : Func) (is : List Nat) (cl : List (Nat × Nat)) : Prop := ∀ v : PDen c.ps, semF tbl (gam g) h fuelN n (bodyOf f) [] c.ps c.rs is cl v = c.g v
abbrev EqB (c : Ctr) (g : zG) (h : zH) (n : Nat) (f : Func) (is : List Nat) (cl : List (Nat × Nat)) : Prop := ∀ v : PDen c.ps, semF tbl (gam g) h fuN n (bodyOf f) [] c.ps c.rs is cl v = c.g v
def isNaN (p0 : Int) : Option (Unit × Bool × Unit) :=
 some ((), (p0 != p0), ())
def isNaN_c : Ctr := ⟨[.ro yi32], [.val .bool], fun v => isNaN v.1⟩
theorem isNaN_eq : EqB isNaN_c [] h0 6 Tryz.f73 [2] [] := fun v => by kernel_rfl
def cmpLess (p0 : Int) (p1 : Int) : Option (Unit × Bool × Unit) :=
 ((isNaN p0).bind fun r1 =>
 bif r1.2.1 then
 ((isNaN p1).bind fun r2 =>
 bif (!r2.2.1) then
 some ((), true, ())
 else
 some ((), (decide (p0 < p1)), ()))
 else
 some ((), (decide (p0 < p1)), ()))
def cmpLess_c : Ctr := ⟨[.ro yi32, .ro yi32], [.val .bool], fun v => cmpLess v.1 v.2.1⟩
def cmpLess_g : zG := [(73, isNaN_c)]
theorem cmpLess_eq : EqB cmpLess_c cmpLess_g h0 17 Tryz.f122 [4] [] := fun v => by kernel_rfl
def cmpCompare (p0 : Int) (p1 : Int) : Option (Unit × Int × Unit) :=
 ((isNaN p0).bind fun r1 =>
 ((isNaN p1).bind fun r2 =>
 ((show Option ((Int × Unit) ⊕ (Int × Int × Bool × Unit)) from
 bif r1.2.1 then
 bif r2.2.1 then
 some (.inl ((0 : Int), ()))
 else
 some (.inl ((-1 : Int), ()))
 else
 some (.inr (p0, p1, r2.2.1, ()))).bind fun y4 =>
 (match y4 with
 | .inl y4 =>
 some ((), y4.1, ())
 | .inr y4 =>
 ((show Option ((Int × Unit) ⊕ (Int × Int × Unit)) from
 bif y4.2.2.1 then
 some (.inl ((1 : Int), ()))
 else
 some (.inr (y4.1, y4.2.1, ()))).bind fun y6 =>
 (match y6 with
 | .inl y6 =>
 some ((), y6.1, ())
 | .inr y6 =>
 ((show Option ((Int × Unit) ⊕ (Int × Int × Unit)) from
 bif (decide (y6.1 < y6.2.1)) then
 some (.inl ((-1 : Int), ()))
 else
 some (.inr (y6.1, y6.2.1, ()))).bind fun y8 =>
 (match y8 with
 | .inl y8 =>
 some ((), y8.1, ())
 | .inr y8 =>
 bif (decide (y8.1 > y8.2.1)) then
 some ((), (1 : Int), ())
 else
 some ((), (0 : Int), ())))))))))
def cmpCompare_c : Ctr := ⟨[.ro yi32, .ro yi32], [.val yi64], fun v => cmpCompare v.1 v.2.1⟩
def cmpCompare_h : zH := fun i => if i = 1090011 then zC [zR [(4, yi64)], zN [(0, yi32), (1, yi32)]] else if i = 1070009 then zC [zR [(4, yi64)], zN [(0, yi32), (1, yi32)]] else if i = 1030007 then zC [zR [(4, yi64)], zN [(0, yi32), (1, yi32), (6, .bool)]] else none
def cmpCompare_g : zG := [(73, isNaN_c)]
theorem cmpCompare_eq : EqB cmpCompare_c cmpCompare_g cmpCompare_h 20 Tryz.f53 [4] [] := fun v => by kernel_rfl
def normLess (p0 : (Int × Int)) (p1 : (Int × Int)) : Option (Unit × Int × Unit) :=
 ((cmpCompare p0.1 p1.1).bind fun r1 =>
 some ((), r1.2.1, ()))
def normLess_c : Ctr := ⟨[.ro y0, .ro y0], [.val yi64], fun v => normLess v.1 v.2.1⟩
def normLess_g : zG := [(53, cmpCompare_c)]
theorem normLess_eq : EqB normLess_c normLess_g h0 10 Tryz.f52 [4] [] := fun v => by kernel_rfl
def isNaNS (p0 : List UInt8) : Option (Unit × Bool × Unit) :=
 some ((), (!(p0 == p0)), ())
def isNaNS_c : Ctr := ⟨[.ro .str], [.val .bool], fun v => isNaNS v.1⟩
theorem isNaNS_eq : EqB isNaNS_c [] h0 6 Tryz.f115 [2] [] := fun v => by kernel_rfl
def cmpLessS (p0 : List UInt8) (p1 : List UInt8) : Option (Unit × Bool × Unit) :=
 ((isNaNS p0).bind fun r1 =>
 bif r1.2.1 then
 ((isNaNS p1).bind fun r2 =>
 bif (!r2.2.1) then
 some ((), true, ())
 else
 some ((), (Op.bytesLess p0 p1), ()))
 else
 some ((), (Op.bytesLess p0 p1), ()))
def cmpLessS_c : Ctr := ⟨[.ro .str, .ro .str], [.val .bool], fun v => cmpLessS v.1 v.2.1⟩
def cmpLessS_g : zG := [(115, isNaNS_c)]
theorem cmpLessS_eq : EqB cmpLessS_c cmpLessS_g h0 17 Tryz.f101 [4] [] := fun v => by kernel_rfl
def compactI_s14 (a0 : List Int) (a3 : Int) (a4 : (Nat × Nat)) (a5 : Int) : Option ((List Int × Int × (Nat × Nat) × Int × Unit) ⊕ (List Int × Int × Unit)) :=
 ((show Option ((List Int × Int × (Nat × Nat) × Int × Unit) ⊕ (List Int × Int × Unit)) from
 bif (decide (a5 < (a4.2 : Int))) then
 some (.inl (a0, a3, a4, a5, ()))
 else
 some (.inr (a0, a3, ()))).bind fun y16 =>
 (match y16 with
 | .inl y16 =>
 ((show Option (List Int × Int × (Nat × Nat) × Int × Unit) from
 bif (inR y16.2.2.2.1 y16.2.2.1.2) then
 ((lk y16.1 (plusI y16.2.2.1.1 y16.2.2.2.1)).bind fun x18 =>
 bif (inR (IntKind.i64.wrap (y16.2.2.2.1 - 1)) y16.2.2.1.2) then
 let v19 := (plusI y16.2.2.1.1 (IntKind.i64.wrap (y16.2.2.2.1 - 1)))
 ((lk y16.1 v19).bind fun x20 =>
 bif (x18 != x20) then
 bif (inR y16.2.2.2.1 y16.2.2.1.2) then
 ((lk y16.1 (plusI y16.2.2.1.1 y16.2.2.2.1)).bind fun x21 =>
 ((lk y16.1 y16.2.1).bind fun _x22 =>
 ((lk y16.1 y16.2.1).bind fun x23 =>
 some ((y16.1.set y16.2.1.toNat x21), (IntKind.i64.wrap (y16.2.1 + 1)), y16.2.2.1, y16.2.2.2.1, ()))))
 else none
 else
 some (y16.1, y16.2.1, y16.2.2.1, y16.2.2.2.1, ()))
 else none)
 else none).bind fun y24 =>
 some (.inl (y24.1, y24.2.1, y24.2.2.1, (IntKind.i64.wrap (y24.2.2.2.1 + 1)), ())))
 | .inr y16 =>
 some (.inr (y16.1, y16.2.1, ()))))
def compactI_s4 (a0 : List Int) (a3 : Int) : Option ((List Int × Int × Unit) ⊕ ((List Int × Unit) ⊕ (List Int × Unit))) :=
 ((show Option ((List Int × Int × Unit) ⊕ (List Int × Unit)) from
 bif (decide (a3 < (a0.length : Int))) then
 some (.inl (a0, a3, ()))
 else
 some (.inr (a0, ()))).bind fun y6 =>
 (match y6 with
 | .inl y6 =>
 ((show Option ((List Int × Unit) ⊕ (List Int × Int × Unit)) from
 ((lk y6.1 y6.2.1).bind fun _x8 =>
 ((lk y6.1 y6.2.1).bind fun x9 =>
 ((lk y6.1 (IntKind.i64.wrap (y6.2.1 - 1))).bind fun _x10 =>
 ((lk y6.1 (IntKind.i64.wrap (y6.2.1 - 1))).bind fun x11 =>
 bif (x9 == x11) then
 bif (inB y6.2.1 (y6.1.length : Int) y6.1.length) then
 ((show Option (List Int × Int × Unit) from
 ((iterN (fun x => compactI_s14 x.1 x.2.1 x.2.2.1 x.2.2.2.1) fuN (y6.1, y6.2.1, (y6.2.1.toNat, ((y6.1.length : Int) - y6.2.1).toNat), (1 : Int), ())).bind fun y25 =>
 some (y25.1, y25.2.1, ()))).bind fun y26 =>
 bif (inB y26.2.1 (y26.1.length : Int) y26.1.length) then
 let l27 := (clrL y26.1 y26.2.1.toNat ((y26.1.length : Int) - y26.2.1).toNat (0 : Int))
 bif (inB (0 : Int) y26.2.1 l27.length) then
 some (.inl ((((l27).drop (0 : Int).toNat).take (y26.2.1 - 0).toNat), ()))
 else none
 else none)
 else none
 else
 some (.inr (y6.1, y6.2.1, ()))))))).bind fun y28 =>
 (match y28 with
 | .inl y28 =>
 some (.inr (.inl (y28.1, ())))
 | .inr y28 =>
 some (.inl (y28.1, (IntKind.i64.wrap (y28.2.1 + 1)), ()))))
 | .inr y6 =>
 some (.inr (.inr (y6.1, ())))))
def compactI (p0 : List Int) : Option (Unit × List Int × Unit) :=
 ((show Option ((List Int × Unit) ⊕ (List Int × Unit)) from
 bif (decide ((p0.length : Int) < 2)) then
 some (.inl (p0, ()))
 else
 some (.inr (p0, ()))).bind fun y2 =>
 (match y2 with
 | .inl y2 =>
 some ((), y2.1, ())
 | .inr y2 =>
 ((iterN (fun x => compactI_s4 x.1 x.2.1) fuN (y2.1, (1 : Int), ())).bind fun y29 =>
 (match y29 with
 | .inl y29 =>
 some ((), y29.1, ())
 | .inr y29 =>
 some ((), y29.1, ())))))
def compactI_c : Ctr := ⟨[.own (.vec yi32)], [.own (.vec yi32)], fun v => compactI v.1⟩
def compactI_h : zH := fun i => if i = 4 then zL [(0, .vec yi32), (3, yi64)] [zR [(2, .vec yi32)], zX 0 [(0, .vec yi32)]] else if i = 1060005 then zC [zR [(2, .vec yi32)], zN [(0, .vec yi32), (3, yi64)]] else if i = 1080014 then zC [zN [(0, .vec yi32), (3, yi64)]] else if i = 9 then zL [(0, .vec yi32), (3, yi64), (4, (.osl 0)), (5, yi64)] [zX 2 [(0, .vec yi32), (3, yi64)]] else if i = 1110010 then zC [zN [(0, .vec yi32), (3, yi64), (4, (.osl 0)), (5, yi64)]] else if i = 1090011 then zC [zN [(0, .vec yi32), (3, yi64), (4, (.osl 0)), (5, yi64)], zX 2 [(0, .vec yi32), (3, yi64)]] else if i = 1040006 then zC [zN [(0, .vec yi32), (3, yi64)], zX 0 [(0, .vec yi32)]] else if i = 1010003 then zC [zR [(2, .vec yi32)], zN [(0, .vec yi32)]] else none
theorem compactI_eq : EqB compactI_c [] compactI_h 61 Tryz.f78 [2] [] := fun v => by kernel_rfl
def compactS_s14 (a0 : tW) (a3 : Int) (a4 : (Nat × Nat)) (a5 : Int) : Option ((tW × Int × (Nat × Nat) × Int × Unit) ⊕ (tW × Int × Unit)) :=
 ((show Option ((tW × Int × (Nat × Nat) × Int × Unit) ⊕ (tW × Int × Unit)) from
 bif (decide (a5 < (a4.2 : Int))) then
 some (.inl (a0, a3, a4, a5, ()))
 else
 some (.inr (a0, a3, ()))).bind fun y16 =>
 (match y16 with
 | .inl y16 =>
 ((show Option (tW × Int × (Nat × Nat) × Int × Unit) from
 bif (inR y16.2.2.2.1 y16.2.2.1.2) then
 ((lk y16.1 (plusI y16.2.2.1.1 y16.2.2.2.1)).bind fun x18 =>
 bif (inR (IntKind.i64.wrap (y16.2.2.2.1 - 1)) y16.2.2.1.2) then
 let v19 := (plusI y16.2.2.1.1 (IntKind.i64.wrap (y16.2.2.2.1 - 1)))
 ((lk y16.1 v19).bind fun x20 =>
 bif (!(x18 == x20)) then
 bif (inR y16.2.2.2.1 y16.2.2.1.2) then
 ((lk y16.1 (plusI y16.2.2.1.1 y16.2.2.2.1)).bind fun x21 =>
 ((lk y16.1 y16.2.1).bind fun _x22 =>
 ((lk y16.1 y16.2.1).bind fun x23 =>
 some ((y16.1.set y16.2.1.toNat x21), (IntKind.i64.wrap (y16.2.1 + 1)), y16.2.2.1, y16.2.2.2.1, ()))))
 else none
 else
 some (y16.1, y16.2.1, y16.2.2.1, y16.2.2.2.1, ()))
 else none)
 else none).bind fun y24 =>
 some (.inl (y24.1, y24.2.1, y24.2.2.1, (IntKind.i64.wrap (y24.2.2.2.1 + 1)), ())))
 | .inr y16 =>
 some (.inr (y16.1, y16.2.1, ()))))
def compactS_s4 (a0 : tW) (a3 : Int) : Option ((tW × Int × Unit) ⊕ ((tW × Unit) ⊕ (tW × Unit))) :=
 ((show Option ((tW × Int × Unit) ⊕ (tW × Unit)) from
 bif (decide (a3 < (a0.length : Int))) then
 some (.inl (a0, a3, ()))
 else
 some (.inr (a0, ()))).bind fun y6 =>
 (match y6 with
 | .inl y6 =>
 ((show Option ((tW × Unit) ⊕ (tW × Int × Unit)) from
 ((lk y6.1 y6.2.1).bind fun _x8 =>
 ((lk y6.1 y6.2.1).bind fun x9 =>
 ((lk y6.1 (IntKind.i64.wrap (y6.2.1 - 1))).bind fun _x10 =>
 ((lk y6.1 (IntKind.i64.wrap (y6.2.1 - 1))).bind fun x11 =>
 bif (x9 == x11) then
 bif (inB y6.2.1 (y6.1.length : Int) y6.1.length) then
 ((show Option (tW × Int × Unit) from
 ((iterN (fun x => compactS_s14 x.1 x.2.1 x.2.2.1 x.2.2.2.1) fuN (y6.1, y6.2.1, (y6.2.1.toNat, ((y6.1.length : Int) - y6.2.1).toNat), (1 : Int), ())).bind fun y25 =>
 some (y25.1, y25.2.1, ()))).bind fun y26 =>
 bif (inB y26.2.1 (y26.1.length : Int) y26.1.length) then
 let l27 := (clrL y26.1 y26.2.1.toNat ((y26.1.length : Int) - y26.2.1).toNat ([] : List UInt8))
 bif (inB (0 : Int) y26.2.1 l27.length) then
 some (.inl ((((l27).drop (0 : Int).toNat).take (y26.2.1 - 0).toNat), ()))
 else none
 else none)
 else none
 else
 some (.inr (y6.1, y6.2.1, ()))))))).bind fun y28 =>
 (match y28 with
 | .inl y28 =>
 some (.inr (.inl (y28.1, ())))
 | .inr y28 =>
 some (.inl (y28.1, (IntKind.i64.wrap (y28.2.1 + 1)), ()))))
 | .inr y6 =>
 some (.inr (.inr (y6.1, ())))))
def compactS (p0 : tW) : Option (Unit × tW × Unit) :=
 ((show Option ((tW × Unit) ⊕ (tW × Unit)) from
 bif (decide ((p0.length : Int) < 2)) then
 some (.inl (p0, ()))
 else
 some (.inr (p0, ()))).bind fun y2 =>
 (match y2 with
 | .inl y2 =>
 some ((), y2.1, ())
 | .inr y2 =>
 ((iterN (fun x => compactS_s4 x.1 x.2.1) fuN (y2.1, (1 : Int), ())).bind fun y29 =>
 (match y29 with
 | .inl y29 =>
 some ((), y29.1, ())
 | .inr y29 =>
 some ((), y29.1, ())))))
def compactS_c : Ctr := ⟨[.own (.vec .str)], [.own (.vec .str)], fun v => compactS v.1⟩
def compactS_h : zH := fun i => if i = 4 then zL [(0, .vec .str), (3, yi64)] [zR [(2, .vec .str)], zX 0 [(0, .vec .str)]] else if i = 1060005 then zC [zR [(2, .vec .str)], zN [(0, .vec .str), (3, yi64)]] else if i = 1080014 then zC [zN [(0, .vec .str), (3, yi64)]] else if i = 9 then zL [(0, .vec .str), (3, yi64), (4, (.osl 0)), (5, yi64)] [zX 2 [(0, .vec .str), (3, yi64)]] else if i = 1110010 then zC [zN [(0, .vec .str), (3, yi64), (4, (.osl 0)), (5, yi64)]] else if i = 1090011 then zC [zN [(0, .vec .str), (3, yi64), (4, (.osl 0)), (5, yi64)], zX 2 [(0, .vec .str), (3, yi64)]] else if i = 1040006 then zC [zN [(0, .vec .str), (3, yi64)], zX 0 [(0, .vec .str)]] else if i = 1010003 then zC [zR [(2, .vec .str)], zN [(0, .vec .str)]] else none
theorem compactS_eq : EqB compactS_c [] compactS_h 61 Tryz.f55 [2] [] := fun v => by kernel_rfl
end
def i_len64_c : Ctr := ⟨[.ro yu64], [.val yi64], fun v => Srt.len64 v.1⟩
def i_len64_h : zH := fun i => if i = 1070010 then zC [zN [(0, yu64), (2, yi64)]] else if i = 1040007 then zC [zN [(0, yu64), (2, yi64)]] else if i = 1010004 then zC [zN [(0, yu64), (2, yi64)]] else none
theorem i_len64_eq : EqS i_len64_c [] i_len64_h 25 Tryz.f94 [2] [] := fun v => by kernel_rfl
def i_bitsLen_c : Ctr := ⟨[.ro yu64], [.val yi64], fun v => Srt.bitsLen v.1⟩
def i_bitsLen_h : zH := fun i => if i = 1010002 then zC [zN [(0, yu64)]] else none
def i_bitsLen_g : zG := [(94, i_len64_c)]
theorem i_bitsLen_eq : EqS i_bitsLen_c i_bitsLen_g i_bitsLen_h 8 Tryz.f72 [2] [] := fun v => by kernel_rfl
def i_nextPow_c : Ctr := ⟨[.ro yi64], [.val yu64], fun v => Srt.nextPow v.1⟩
def i_nextPow_g : zG := [(72, i_bitsLen_c)]
theorem i_nextPow_eq : EqS i_nextPow_c i_nextPow_g h0 7 Tryz.f108 [2] [] := fun v => by kernel_rfl
def i_xorNext_c : Ctr := ⟨[.mu (.bx yu64)], [.val yu64], fun v => Srt.xorNext v.1⟩
theorem i_xorNext_eq : EqS i_xorNext_c [] h0 33 Tryz.f109 [2] [] := fun v => by kernel_rfl
def i_insSort_c : Ctr := ⟨[.mu (.vec yi32), .ro yi64, .ro yi64], [], fun v => Srt.insSort i_less v.1 v.2.1 v.2.2.1⟩
def i_insSort_h : zH := fun i => if i = 1 then zL [(0, .vec yi32), (1, yi64), (2, yi64), (6, yi64)] [zX 0 [(0, .vec yi32)]] else if i = 1030002 then zC [zN [(0, .vec yi32), (1, yi64), (2, yi64), (6, yi64)]] else if i = 4 then zL [(0, .vec yi32), (1, yi64), (2, yi64), (6, yi64), (7, yi64)] [zX 2 [(0, .vec yi32), (1, yi64), (2, yi64), (6, yi64)]] else if i = 1060005 then zC [zN [(0, .vec yi32), (1, yi64), (2, yi64), (6, yi64), (7, yi64)]] else if i = 1040006 then zC [zN [(0, .vec yi32), (1, yi64), (2, yi64), (6, yi64), (7, yi64)], zX 2 [(0, .vec yi32), (1, yi64), (2, yi64), (6, yi64)]] else if i = 1010003 then zC [zN [(0, .vec yi32), (1, yi64), (2, yi64), (6, yi64)], zX 0 [(0, .vec yi32)]] else none
def i_insSort_g : zG := [(122, i_less_c)]
theorem i_insSort_eq : EqS i_insSort_c i_insSort_g i_insSort_h 49 Tryz.f116 [] [] := fun v => by kernel_rfl
def i_siftDown_c : Ctr := ⟨[.mu (.vec yi32), .ro yi64, .ro yi64, .ro yi64], [], fun v => Srt.siftDown i_less v.1 v.2.1 v.2.2.1 v.2.2.2.1⟩
def i_siftDown_h : zH := fun i => if i = 1 then zL [(0, .vec yi32), (2, yi64), (3, yi64), (8, yi64)] [zX 0 [(0, .vec yi32)], zR [(0, .vec yi32)]] else if i = 1050006 then zC [zR [(0, .vec yi32)], zN [(0, .vec yi32), (2, yi64), (3, yi64), (8, yi64), (9, yi64)]] else if i = 1030005 then zC [zN [(0, .vec yi32), (2, yi64), (3, yi64), (8, yi64), (9, yi64)]] else if i = 1030004 then zC [zN [(0, .vec yi32), (2, yi64), (3, yi64), (8, yi64), (9, yi64), (36, .bool)]] else if i = 1020003 then zC [zX 0 [(0, .vec yi32)], zN [(0, .vec yi32), (2, yi64), (3, yi64), (8, yi64), (9, yi64)]] else none
def i_siftDown_g : zG := [(122, i_less_c)]
theorem i_siftDown_eq : EqS i_siftDown_c i_siftDown_g i_siftDown_h 76 Tryz.f128 [] [] := fun v => by kernel_rfl
def i_heapSort_c : Ctr := ⟨[.mu (.vec yi32), .ro yi64, .ro yi64], [], fun v => Srt.heapSort i_less v.1 v.2.1 v.2.2.1⟩
def i_heapSort_h : zH := fun i => if i = 8 then zL [(0, .vec yi32), (6, yi64), (7, yi64), (10, yi64)] [zX 2 [(0, .vec yi32)]] else if i = 1100009 then zC [zN [(0, .vec yi32), (6, yi64), (7, yi64), (10, yi64)]] else if i = 1080010 then zC [zN [(0, .vec yi32), (6, yi64), (7, yi64), (10, yi64)], zX 2 [(0, .vec yi32)]] else if i = 1030007 then zC [zN [(0, .vec yi32), (6, yi64), (7, yi64), (8, yi64)]] else if i = 4 then zL [(0, .vec yi32), (6, yi64), (7, yi64), (8, yi64), (9, yi64)] [zX 0 [(0, .vec yi32), (6, yi64), (7, yi64), (8, yi64)]] else if i = 1060005 then zC [zN [(0, .vec yi32), (6, yi64), (7, yi64), (8, yi64), (9, yi64)]] else if i = 1040006 then zC [zN [(0, .vec yi32), (6, yi64), (7, yi64), (8, yi64), (9, yi64)], zX 0 [(0, .vec yi32), (6, yi64), (7, yi64), (8, yi64)]] else none
def i_heapSort_g : zG := [(128, i_siftDown_c)]
theorem i_heapSort_eq : EqS i_heapSort_c i_heapSort_g i_heapSort_h 56 Tryz.f117 [] [] := fun v => by kernel_rfl
def i_breakPat_c : Ctr := ⟨[.mu (.vec yi32), .ro yi64, .ro yi64], [], fun v => Srt.breakPat v.1 v.2.1 v.2.2.1⟩
def i_breakPat_h : zH := fun i => if i = 5 then zL [(0, .vec yi32), (1, yi64), (6, yi64), (7, .bx yu64), (8, yu64), (9, yi64)] [zX 0 [(0, .vec yi32)]] else if i = 1070006 then zC [zN [(0, .vec yi32), (1, yi64), (6, yi64), (7, .bx yu64), (8, yu64), (9, yi64)]] else if i = 1080010 then zC [zN [(0, .vec yi32), (1, yi64), (6, yi64), (7, .bx yu64), (8, yu64), (9, yi64), (10, yi64)]] else if i = 1050007 then zC [zN [(0, .vec yi32), (1, yi64), (6, yi64), (7, .bx yu64), (8, yu64), (9, yi64)], zX 0 [(0, .vec yi32)]] else none
def i_breakPat_g : zG := [(108, i_nextPow_c), (109, i_xorNext_c)]
theorem i_breakPat_eq : EqS i_breakPat_c i_breakPat_g i_breakPat_h 65 Tryz.f118 [] [] := fun v => by kernel_rfl
def i_order2_c : Ctr := ⟨[.ro (.slice yi32), .ro yi64, .ro yi64, .mu (.bx yi64)], [.val yi64, .val yi64], fun v => Srt.order2 i_less v.1 v.2.1 v.2.2.1 v.2.2.2.1⟩
def i_order2_h : zH := fun i => if i = 1010004 then zC [zR [(3, .bx yi64), (8, yi64), (9, yi64)], zN [(1, yi64), (2, yi64), (3, .bx yi64)]] else none
def i_order2_g : zG := [(122, i_less_c)]
theorem i_order2_eq : EqS i_order2_c i_order2_g i_order2_h 28 Tryz.f131 [8, 9] [] := fun v => by kernel_rfl
def i_median_c : Ctr := ⟨[.ro (.slice yi32), .ro yi64, .ro yi64, .ro yi64, .mu (.bx yi64)], [.val yi64], fun v => Srt.median i_less v.1 v.2.1 v.2.2.1 v.2.2.2.1 v.2.2.2.2.1⟩
def i_median_g : zG := [(131, i_order2_c)]
theorem i_median_eq : EqS i_median_c i_median_g h0 36 Tryz.f130 [10] [] := fun v => by kernel_rfl
def i_medianAdj_c : Ctr := ⟨[.ro (.slice yi32), .ro yi64, .mu (.bx yi64)], [.val yi64], fun v => Srt.medianAdj i_less v.1 v.2.1 v.2.2.1⟩
def i_medianAdj_g : zG := [(130, i_median_c)]
theorem i_medianAdj_eq : EqS i_medianAdj_c i_medianAdj_g h0 15 Tryz.f129 [6] [] := fun v => by kernel_rfl
def i_choosePiv_c : Ctr := ⟨[.ro (.slice yi32), .ro yi64, .ro yi64], [.val yi64, .val yi64], fun v => Srt.choosePiv i_less v.1 v.2.1 v.2.2.1⟩
def i_choosePiv_h : zH := fun i => if i = 1060012 then zC [zN [(9, .bx yi64), (11, yi64)]] else if i = 1070011 then zC [zN [(0, .slice yi32), (9, .bx yi64), (10, yi64), (11, yi64), (12, yi64)]] else none
def i_choosePiv_g : zG := [(130, i_median_c), (129, i_medianAdj_c)]
theorem i_choosePiv_eq : EqS i_choosePiv_c i_choosePiv_g i_choosePiv_h 57 Tryz.f119 [6, 7] [] := fun v => by kernel_rfl
def i_revRange_c : Ctr := ⟨[.mu (.vec yi32), .ro yi64, .ro yi64], [], fun v => Srt.revRange v.1 v.2.1 v.2.2.1⟩
def i_revRange_h : zH := fun i => if i = 2 then zL [(0, .vec yi32), (6, yi64), (7, yi64)] [zX 0 [(0, .vec yi32)]] else if i = 1020003 then zC [zN [(0, .vec yi32), (6, yi64), (7, yi64)], zX 0 [(0, .vec yi32)]] else none
theorem i_revRange_eq : EqS i_revRange_c [] i_revRange_h 32 Tryz.f120 [] [] := fun v => by kernel_rfl
def i_partIns_c : Ctr := ⟨[.mu (.vec yi32), .ro yi64, .ro yi64], [.val .bool], fun v => Srt.partIns i_less v.1 v.2.1 v.2.2.1⟩
def i_partIns_h : zH := fun i => if i = 3 then zL [(0, .vec yi32), (1, yi64), (2, yi64), (7, yi64), (8, yi64)] [zR [(0, .vec yi32), (6, .bool)], zX 0 [(0, .vec yi32)]] else if i = 1050004 then zC [zR [(0, .vec yi32), (6, .bool)], zN [(0, .vec yi32), (1, yi64), (2, yi64), (7, yi64), (8, yi64)]] else if i = 20 then zL [(0, .vec yi32), (1, yi64), (2, yi64), (7, yi64), (8, yi64), (10, yi64)] [zX 6 [(0, .vec yi32), (1, yi64), (2, yi64), (7, yi64), (8, yi64)]] else if i = 1220021 then zC [zX 6 [(0, .vec yi32), (1, yi64), (2, yi64), (7, yi64), (8, yi64)], zN [(0, .vec yi32), (1, yi64), (2, yi64), (7, yi64), (8, yi64), (10, yi64)]] else if i = 1220023 then zC [zX 6 [(0, .vec yi32), (1, yi64), (2, yi64), (7, yi64), (8, yi64)], zN [(0, .vec yi32), (1, yi64), (2, yi64), (7, yi64), (8, yi64), (10, yi64)]] else if i = 1200022 then zC [zN [(0, .vec yi32), (1, yi64), (2, yi64), (7, yi64), (8, yi64), (10, yi64)], zX 6 [(0, .vec yi32), (1, yi64), (2, yi64), (7, yi64), (8, yi64)]] else if i = 1120018 then zC [zN [(0, .vec yi32), (1, yi64), (2, yi64), (7, yi64), (8, yi64)]] else if i = 14 then zL [(0, .vec yi32), (1, yi64), (2, yi64), (7, yi64), (8, yi64), (9, yi64)] [zX 4 [(0, .vec yi32), (1, yi64), (2, yi64), (7, yi64), (8, yi64)]] else if i = 1160015 then zC [zX 4 [(0, .vec yi32), (1, yi64), (2, yi64), (7, yi64), (8, yi64)], zN [(0, .vec yi32), (1, yi64), (2, yi64), (7, yi64), (8, yi64), (9, yi64)]] else if i = 1160017 then zC [zX 4 [(0, .vec yi32), (1, yi64), (2, yi64), (7, yi64), (8, yi64)], zN [(0, .vec yi32), (1, yi64), (2, yi64), (7, yi64), (8, yi64), (9, yi64)]] else if i = 1140016 then zC [zN [(0, .vec yi32), (1, yi64), (2, yi64), (7, yi64), (8, yi64), (9, yi64)], zX 4 [(0, .vec yi32), (1, yi64), (2, yi64), (7, yi64), (8, yi64)]] else if i = 1090011 then zC [zR [(0, .vec yi32), (6, .bool)], zN [(0, .vec yi32), (1, yi64), (2, yi64), (7, yi64), (8, yi64)]] else if i = 1070009 then zC [zR [(0, .vec yi32), (6, .bool)], zN [(0, .vec yi32), (1, yi64), (2, yi64), (7, yi64), (8, yi64)]] else if i = 1050007 then zC [zN [(0, .vec yi32), (1, yi64), (2, yi64), (7, yi64), (8, yi64)]] else if i = 5 then zL [(0, .vec yi32), (1, yi64), (2, yi64), (7, yi64), (8, yi64)] [zX 2 [(0, .vec yi32), (1, yi64), (2, yi64), (7, yi64), (8, yi64)]] else if i = 1050006 then zC [zN [(0, .vec yi32), (1, yi64), (2, yi64), (7, yi64), (8, yi64)], zX 2 [(0, .vec yi32), (1, yi64), (2, yi64), (7, yi64), (8, yi64)]] else if i = 1030005 then zC [zN [(0, .vec yi32), (1, yi64), (2, yi64), (7, yi64), (8, yi64)], zX 0 [(0, .vec yi32)]] else none
def i_partIns_g : zG := [(122, i_less_c)]
theorem i_partIns_eq : EqS i_partIns_c i_partIns_g i_partIns_h 133 Tryz.f121 [6] [] := fun v => by kernel_rfl
def i_partEq_c : Ctr := ⟨[.mu (.vec yi32), .ro yi64, .ro yi64, .ro yi64], [.val yi64], fun v => Srt.partEq i_less v.1 v.2.1 v.2.2.1 v.2.2.2.1⟩
def i_partEq_h : zH := fun i => if i = 100003 then zL [(0, .vec yi32), (1, yi64), (9, yi64), (10, yi64)] [zX 0 [(0, .vec yi32), (9, yi64)]] else if i = 1070008 then zC [zX 0 [(0, .vec yi32), (9, yi64)], zN [(0, .vec yi32), (1, yi64), (9, yi64), (10, yi64)]] else if i = 1050007 then zC [zN [(0, .vec yi32), (1, yi64), (9, yi64), (10, yi64)]] else if i = 5 then zL [(0, .vec yi32), (1, yi64), (9, yi64), (10, yi64)] [zX 4 [(0, .vec yi32), (1, yi64), (9, yi64), (10, yi64)]] else if i = 1050006 then zC [zN [(0, .vec yi32), (1, yi64), (9, yi64), (10, yi64)], zX 4 [(0, .vec yi32), (1, yi64), (9, yi64), (10, yi64)]] else if i = 1030005 then zC [zN [(0, .vec yi32), (1, yi64), (9, yi64), (10, yi64)]] else if i = 3 then zL [(0, .vec yi32), (1, yi64), (9, yi64), (10, yi64)] [zX 2 [(0, .vec yi32), (1, yi64), (9, yi64), (10, yi64)]] else if i = 1030004 then zC [zN [(0, .vec yi32), (1, yi64), (9, yi64), (10, yi64)], zX 2 [(0, .vec yi32), (1, yi64), (9, yi64), (10, yi64)]] else none
def i_partEq_g : zG := [(122, i_less_c)]
theorem i_partEq_eq : EqS i_partEq_c i_partEq_g i_partEq_h 84 Tryz.f123 [8] [] := fun v => by kernel_rfl
def i_partition_c : Ctr := ⟨[.mu (.vec yi32), .ro yi64, .ro yi64, .ro yi64], [.val yi64, .val .bool], fun v => Srt.partition i_less v.1 v.2.1 v.2.2.1 v.2.2.2.1⟩
def i_partition_h : zH := fun i => if i = 1130021 then zC [zN [(0, .vec yi32), (1, yi64), (11, yi64)]] else if i = 100013 then zL [(0, .vec yi32), (1, yi64), (10, yi64), (11, yi64)] [zX 4 [(0, .vec yi32), (1, yi64), (11, yi64)]] else if i = 1170018 then zC [zX 4 [(0, .vec yi32), (1, yi64), (11, yi64)], zN [(0, .vec yi32), (1, yi64), (10, yi64), (11, yi64)]] else if i = 1150017 then zC [zN [(0, .vec yi32), (1, yi64), (10, yi64), (11, yi64)]] else if i = 15 then zL [(0, .vec yi32), (1, yi64), (10, yi64), (11, yi64)] [zX 8 [(0, .vec yi32), (1, yi64), (10, yi64), (11, yi64)]] else if i = 1150016 then zC [zN [(0, .vec yi32), (1, yi64), (10, yi64), (11, yi64)], zX 8 [(0, .vec yi32), (1, yi64), (10, yi64), (11, yi64)]] else if i = 1130015 then zC [zN [(0, .vec yi32), (1, yi64), (10, yi64), (11, yi64)]] else if i = 13 then zL [(0, .vec yi32), (1, yi64), (10, yi64), (11, yi64)] [zX 6 [(0, .vec yi32), (1, yi64), (10, yi64), (11, yi64)]] else if i = 1130014 then zC [zN [(0, .vec yi32), (1, yi64), (10, yi64), (11, yi64)], zX 6 [(0, .vec yi32), (1, yi64), (10, yi64), (11, yi64)]] else if i = 1070010 then zC [zR [(0, .vec yi32), (8, yi64), (9, .bool)], zN [(0, .vec yi32), (1, yi64), (10, yi64), (11, yi64)]] else if i = 1050007 then zC [zN [(0, .vec yi32), (1, yi64), (10, yi64), (11, yi64)]] else if i = 5 then zL [(0, .vec yi32), (1, yi64), (10, yi64), (11, yi64)] [zX 2 [(0, .vec yi32), (1, yi64), (10, yi64), (11, yi64)]] else if i = 1050006 then zC [zN [(0, .vec yi32), (1, yi64), (10, yi64), (11, yi64)], zX 2 [(0, .vec yi32), (1, yi64), (10, yi64), (11, yi64)]] else if i = 1030005 then zC [zN [(0, .vec yi32), (1, yi64), (10, yi64), (11, yi64)]] else if i = 3 then zL [(0, .vec yi32), (1, yi64), (10, yi64), (11, yi64)] [zX 0 [(0, .vec yi32), (1, yi64), (10, yi64), (11, yi64)]] else if i = 1030004 then zC [zN [(0, .vec yi32), (1, yi64), (10, yi64), (11, yi64)], zX 0 [(0, .vec yi32), (1, yi64), (10, yi64), (11, yi64)]] else none
def i_partition_g : zG := [(122, i_less_c)]
theorem i_partition_eq : EqS i_partition_c i_partition_g i_partition_h 168 Tryz.f124 [8, 9] [] := fun v => by kernel_rfl
def i_pdq0_c (i_pdqR : List Int → Int → Int → Int → Option (List Int × Unit)) : Ctr := ⟨[.mu (.vec yi32), .ro yi64, .ro yi64, .ro yi64], [], fun v => Srt.pdq0 i_less i_pdqR v.1 v.2.1 v.2.2.1 v.2.2.2.1⟩
def i_pdq0_h : zH := fun i => if i = 2 then zL [(0, .vec yi32), (1, yi64), (2, yi64), (3, yi64), (8, .bool), (9, .bool)] [zR [(0, .vec yi32)]] else if i = 1170020 then zC [zX 1 [(0, .vec yi32), (1, yi64), (2, yi64), (3, yi64), (8, .bool), (9, .bool)], zN [(0, .vec yi32), (1, yi64), (2, yi64), (3, yi64), (10, yi64), (11, yi64)]] else if i = 1170018 then zC [zN [(0, .vec yi32), (1, yi64), (2, yi64), (3, yi64), (8, .bool), (9, .bool), (10, yi64), (11, yi64), (87, .bool)]] else if i = 1150017 then zC [zR [(0, .vec yi32)], zN [(0, .vec yi32), (1, yi64), (2, yi64), (3, yi64), (8, .bool), (9, .bool), (10, yi64), (11, yi64)]] else if i = 1150016 then zC [zN [(0, .vec yi32), (1, yi64), (2, yi64), (3, yi64), (8, .bool), (9, .bool), (10, yi64), (11, yi64), (68, .bool)]] else if i = 1110015 then zC [zN [(0, .vec yi32), (1, yi64), (2, yi64), (3, yi64), (8, .bool), (9, .bool), (10, yi64), (11, yi64), (12, yi64)]] else if i = 1070010 then zC [zN [(0, .vec yi32), (1, yi64), (2, yi64), (3, yi64), (8, .bool), (9, .bool), (10, yi64)]] else if i = 1050007 then zC [zR [(0, .vec yi32)], zN [(0, .vec yi32), (1, yi64), (2, yi64), (3, yi64), (8, .bool), (9, .bool), (10, yi64)]] else if i = 1030005 then zC [zR [(0, .vec yi32)], zN [(0, .vec yi32), (1, yi64), (2, yi64), (3, yi64), (8, .bool), (9, .bool), (10, yi64)]] else none
def i_pdq0_g (i_pdqR : List Int → Int → Int → Int → Option (List Int × Unit)) : List (Nat × Ctr) := [(122, i_less_c), (116, i_insSort_c), (117, i_heapSort_c), (118, i_breakPat_c), (119, i_choosePiv_c), (120, i_revRange_c), (121, i_partIns_c), (123, i_partEq_c), (124, i_partition_c), (105, (i_pdqR_cR i_pdqR))]
theorem i_pdq0_eq (i_pdqR : List Int → Int → Int → Int → Option (List Int × Unit)) (v : PDen (i_pdq0_c i_pdqR).ps) : semF tbl (gam (i_pdq0_g i_pdqR)) i_pdq0_h fuelN 134 (bodyOf Tryz.f105) [] (i_pdq0_c i_pdqR).ps (i_pdq0_c i_pdqR).rs [] [] v = (i_pdq0_c i_pdqR).g v := by kernel_rfl
def i_sortG_c (i_pdqR : List Int → Int → Int → Int → Option (List Int × Unit)) : Ctr := ⟨[.mu (.vec yi32)], [], fun v => Srt.sortG i_pdqR v.1⟩
def i_sortG_h : zH := fun i => none
def i_sortG_g (i_pdqR : List Int → Int → Int → Int → Option (List Int × Unit)) : List (Nat × Ctr) := [(72, i_bitsLen_c), (105, (i_pdqR_cR i_pdqR))]
theorem i_sortG_eq (i_pdqR : List Int → Int → Int → Int → Option (List Int × Unit)) (v : PDen (i_sortG_c i_pdqR).ps) : semF tbl (gam (i_sortG_g i_pdqR)) i_sortG_h fuelN 11 (bodyOf Tryz.f77) [] (i_sortG_c i_pdqR).ps (i_sortG_c i_pdqR).rs [] [] v = (i_sortG_c i_pdqR).g v := by kernel_rfl
def s_insSort_c : Ctr := ⟨[.mu (.vec .str), .ro yi64, .ro yi64], [], fun v => Srt.insSort s_less v.1 v.2.1 v.2.2.1⟩
def s_insSort_h : zH := fun i => if i = 1 then zL [(0, .vec .str), (1, yi64), (2, yi64), (6, yi64)] [zX 0 [(0, .vec .str)]] else if i = 1030002 then zC [zN [(0, .vec .str), (1, yi64), (2, yi64), (6, yi64)]] else if i = 4 then zL [(0, .vec .str), (1, yi64), (2, yi64), (6, yi64), (7, yi64)] [zX 2 [(0, .vec .str), (1, yi64), (2, yi64), (6, yi64)]] else if i = 1060005 then zC [zN [(0, .vec .str), (1, yi64), (2, yi64), (6, yi64), (7, yi64)]] else if i = 1040006 then zC [zN [(0, .vec .str), (1, yi64), (2, yi64), (6, yi64), (7, yi64)], zX 2 [(0, .vec .str), (1, yi64), (2, yi64), (6, yi64)]] else if i = 1010003 then zC [zN [(0, .vec .str), (1, yi64), (2, yi64), (6, yi64)], zX 0 [(0, .vec .str)]] else none
def s_insSort_g : zG := [(101, s_less_c)]
theorem s_insSort_eq : EqS s_insSort_c s_insSort_g s_insSort_h 49 Tryz.f95 [] [] := fun v => by kernel_rfl
def s_siftDown_c : Ctr := ⟨[.mu (.vec .str), .ro yi64, .ro yi64, .ro yi64], [], fun v => Srt.siftDown s_less v.1 v.2.1 v.2.2.1 v.2.2.2.1⟩
def s_siftDown_h : zH := fun i => if i = 1 then zL [(0, .vec .str), (2, yi64), (3, yi64), (8, yi64)] [zX 0 [(0, .vec .str)], zR [(0, .vec .str)]] else if i = 1050006 then zC [zR [(0, .vec .str)], zN [(0, .vec .str), (2, yi64), (3, yi64), (8, yi64), (9, yi64)]] else if i = 1030005 then zC [zN [(0, .vec .str), (2, yi64), (3, yi64), (8, yi64), (9, yi64)]] else if i = 1030004 then zC [zN [(0, .vec .str), (2, yi64), (3, yi64), (8, yi64), (9, yi64), (36, .bool)]] else if i = 1020003 then zC [zX 0 [(0, .vec .str)], zN [(0, .vec .str), (2, yi64), (3, yi64), (8, yi64), (9, yi64)]] else none
def s_siftDown_g : zG := [(101, s_less_c)]
theorem s_siftDown_eq : EqS s_siftDown_c s_siftDown_g s_siftDown_h 76 Tryz.f112 [] [] := fun v => by kernel_rfl
def s_heapSort_c : Ctr := ⟨[.mu (.vec .str), .ro yi64, .ro yi64], [], fun v => Srt.heapSort s_less v.1 v.2.1 v.2.2.1⟩
def s_heapSort_h : zH := fun i => if i = 8 then zL [(0, .vec .str), (6, yi64), (7, yi64), (10, yi64)] [zX 2 [(0, .vec .str)]] else if i = 1100009 then zC [zN [(0, .vec .str), (6, yi64), (7, yi64), (10, yi64)]] else if i = 1080010 then zC [zN [(0, .vec .str), (6, yi64), (7, yi64), (10, yi64)], zX 2 [(0, .vec .str)]] else if i = 1030007 then zC [zN [(0, .vec .str), (6, yi64), (7, yi64), (8, yi64)]] else if i = 4 then zL [(0, .vec .str), (6, yi64), (7, yi64), (8, yi64), (9, yi64)] [zX 0 [(0, .vec .str), (6, yi64), (7, yi64), (8, yi64)]] else if i = 1060005 then zC [zN [(0, .vec .str), (6, yi64), (7, yi64), (8, yi64), (9, yi64)]] else if i = 1040006 then zC [zN [(0, .vec .str), (6, yi64), (7, yi64), (8, yi64), (9, yi64)], zX 0 [(0, .vec .str), (6, yi64), (7, yi64), (8, yi64)]] else none
def s_heapSort_g : zG := [(112, s_siftDown_c)]
theorem s_heapSort_eq : EqS s_heapSort_c s_heapSort_g s_heapSort_h 56 Tryz.f96 [] [] := fun v => by kernel_rfl
def s_breakPat_c : Ctr := ⟨[.mu (.vec .str), .ro yi64, .ro yi64], [], fun v => Srt.breakPat v.1 v.2.1 v.2.2.1⟩
def s_breakPat_h : zH := fun i => if i = 5 then zL [(0, .vec .str), (1, yi64), (6, yi64), (7, .bx yu64), (8, yu64), (9, yi64)] [zX 0 [(0, .vec .str)]] else if i = 1070006 then zC [zN [(0, .vec .str), (1, yi64), (6, yi64), (7, .bx yu64), (8, yu64), (9, yi64)]] else if i = 1080010 then zC [zN [(0, .vec .str), (1, yi64), (6, yi64), (7, .bx yu64), (8, yu64), (9, yi64), (10, yi64)]] else if i = 1050007 then zC [zN [(0, .vec .str), (1, yi64), (6, yi64), (7, .bx yu64), (8, yu64), (9, yi64)], zX 0 [(0, .vec .str)]] else none
def s_breakPat_g : zG := [(108, i_nextPow_c), (109, i_xorNext_c)]
theorem s_breakPat_eq : EqS s_breakPat_c s_breakPat_g s_breakPat_h 65 Tryz.f97 [] [] := fun v => by kernel_rfl
def s_order2_c : Ctr := ⟨[.ro s1, .ro yi64, .ro yi64, .mu (.bx yi64)], [.val yi64, .val yi64], fun v => Srt.order2 s_less v.1 v.2.1 v.2.2.1 v.2.2.2.1⟩
def s_order2_h : zH := fun i => if i = 1010004 then zC [zR [(3, .bx yi64), (8, yi64), (9, yi64)], zN [(1, yi64), (2, yi64), (3, .bx yi64)]] else none
def s_order2_g : zG := [(101, s_less_c)]
theorem s_order2_eq : EqS s_order2_c s_order2_g s_order2_h 28 Tryz.f127 [8, 9] [] := fun v => by kernel_rfl
def s_median_c : Ctr := ⟨[.ro s1, .ro yi64, .ro yi64, .ro yi64, .mu (.bx yi64)], [.val yi64], fun v => Srt.median s_less v.1 v.2.1 v.2.2.1 v.2.2.2.1 v.2.2.2.2.1⟩
def s_median_g : zG := [(127, s_order2_c)]
theorem s_median_eq : EqS s_median_c s_median_g h0 36 Tryz.f114 [10] [] := fun v => by kernel_rfl
def s_medianAdj_c : Ctr := ⟨[.ro s1, .ro yi64, .mu (.bx yi64)], [.val yi64], fun v => Srt.medianAdj s_less v.1 v.2.1 v.2.2.1⟩
def s_medianAdj_g : zG := [(114, s_median_c)]
theorem s_medianAdj_eq : EqS s_medianAdj_c s_medianAdj_g h0 15 Tryz.f113 [6] [] := fun v => by kernel_rfl
def s_choosePiv_c : Ctr := ⟨[.ro s1, .ro yi64, .ro yi64], [.val yi64, .val yi64], fun v => Srt.choosePiv s_less v.1 v.2.1 v.2.2.1⟩
def s_choosePiv_h : zH := fun i => if i = 1060012 then zC [zN [(9, .bx yi64), (11, yi64)]] else if i = 1070011 then zC [zN [(0, s1), (9, .bx yi64), (10, yi64), (11, yi64), (12, yi64)]] else none
def s_choosePiv_g : zG := [(114, s_median_c), (113, s_medianAdj_c)]
theorem s_choosePiv_eq : EqS s_choosePiv_c s_choosePiv_g s_choosePiv_h 57 Tryz.f98 [6, 7] [] := fun v => by kernel_rfl
def s_revRange_c : Ctr := ⟨[.mu (.vec .str), .ro yi64, .ro yi64], [], fun v => Srt.revRange v.1 v.2.1 v.2.2.1⟩
def s_revRange_h : zH := fun i => if i = 2 then zL [(0, .vec .str), (6, yi64), (7, yi64)] [zX 0 [(0, .vec .str)]] else if i = 1020003 then zC [zN [(0, .vec .str), (6, yi64), (7, yi64)], zX 0 [(0, .vec .str)]] else none
theorem s_revRange_eq : EqS s_revRange_c [] s_revRange_h 32 Tryz.f99 [] [] := fun v => by kernel_rfl
def s_partIns_c : Ctr := ⟨[.mu (.vec .str), .ro yi64, .ro yi64], [.val .bool], fun v => Srt.partIns s_less v.1 v.2.1 v.2.2.1⟩
def s_partIns_h : zH := fun i => if i = 3 then zL [(0, .vec .str), (1, yi64), (2, yi64), (7, yi64), (8, yi64)] [zR [(0, .vec .str), (6, .bool)], zX 0 [(0, .vec .str)]] else if i = 1050004 then zC [zR [(0, .vec .str), (6, .bool)], zN [(0, .vec .str), (1, yi64), (2, yi64), (7, yi64), (8, yi64)]] else if i = 20 then zL [(0, .vec .str), (1, yi64), (2, yi64), (7, yi64), (8, yi64), (10, yi64)] [zX 6 [(0, .vec .str), (1, yi64), (2, yi64), (7, yi64), (8, yi64)]] else if i = 1220021 then zC [zX 6 [(0, .vec .str), (1, yi64), (2, yi64), (7, yi64), (8, yi64)], zN [(0, .vec .str), (1, yi64), (2, yi64), (7, yi64), (8, yi64), (10, yi64)]] else if i = 1220023 then zC [zX 6 [(0, .vec .str), (1, yi64), (2, yi64), (7, yi64), (8, yi64)], zN [(0, .vec .str), (1, yi64), (2, yi64), (7, yi64), (8, yi64), (10, yi64)]] else if i = 1200022 then zC [zN [(0, .vec .str), (1, yi64), (2, yi64), (7, yi64), (8, yi64), (10, yi64)], zX 6 [(0, .vec .str), (1, yi64), (2, yi64), (7, yi64), (8, yi64)]] else if i = 1120018 then zC [zN [(0, .vec .str), (1, yi64), (2, yi64), (7, yi64), (8, yi64)]] else if i = 14 then zL [(0, .vec .str), (1, yi64), (2, yi64), (7, yi64), (8, yi64), (9, yi64)] [zX 4 [(0, .vec .str), (1, yi64), (2, yi64), (7, yi64), (8, yi64)]] else if i = 1160015 then zC [zX 4 [(0, .vec .str), (1, yi64), (2, yi64), (7, yi64), (8, yi64)], zN [(0, .vec .str), (1, yi64), (2, yi64), (7, yi64), (8, yi64), (9, yi64)]] else if i = 1160017 then zC [zX 4 [(0, .vec .str), (1, yi64), (2, yi64), (7, yi64), (8, yi64)], zN [(0, .vec .str), (1, yi64), (2, yi64), (7, yi64), (8, yi64), (9, yi64)]] else if i = 1140016 then zC [zN [(0, .vec .str), (1, yi64), (2, yi64), (7, yi64), (8, yi64), (9, yi64)], zX 4 [(0, .vec .str), (1, yi64), (2, yi64), (7, yi64), (8, yi64)]] else if i = 1090011 then zC [zR [(0, .vec .str), (6, .bool)], zN [(0, .vec .str), (1, yi64), (2, yi64), (7, yi64), (8, yi64)]] else if i = 1070009 then zC [zR [(0, .vec .str), (6, .bool)], zN [(0, .vec .str), (1, yi64), (2, yi64), (7, yi64), (8, yi64)]] else if i = 1050007 then zC [zN [(0, .vec .str), (1, yi64), (2, yi64), (7, yi64), (8, yi64)]] else if i = 5 then zL [(0, .vec .str), (1, yi64), (2, yi64), (7, yi64), (8, yi64)] [zX 2 [(0, .vec .str), (1, yi64), (2, yi64), (7, yi64), (8, yi64)]] else if i = 1050006 then zC [zN [(0, .vec .str), (1, yi64), (2, yi64), (7, yi64), (8, yi64)], zX 2 [(0, .vec .str), (1, yi64), (2, yi64), (7, yi64), (8, yi64)]] else if i = 1030005 then zC [zN [(0, .vec .str), (1, yi64), (2, yi64), (7, yi64), (8, yi64)], zX 0 [(0, .vec .str)]] else none
def s_partIns_g : zG := [(101, s_less_c)]
theorem s_partIns_eq : EqS s_partIns_c s_partIns_g s_partIns_h 133 Tryz.f100 [6] [] := fun v => by kernel_rfl
def s_partEq_c : Ctr := ⟨[.mu (.vec .str), .ro yi64, .ro yi64, .ro yi64], [.val yi64], fun v => Srt.partEq s_less v.1 v.2.1 v.2.2.1 v.2.2.2.1⟩
def s_partEq_h : zH := fun i => if i = 100003 then zL [(0, .vec .str), (1, yi64), (9, yi64), (10, yi64)] [zX 0 [(0, .vec .str), (9, yi64)]] else if i = 1070008 then zC [zX 0 [(0, .vec .str), (9, yi64)], zN [(0, .vec .str), (1, yi64), (9, yi64), (10, yi64)]] else if i = 1050007 then zC [zN [(0, .vec .str), (1, yi64), (9, yi64), (10, yi64)]] else if i = 5 then zL [(0, .vec .str), (1, yi64), (9, yi64), (10, yi64)] [zX 4 [(0, .vec .str), (1, yi64), (9, yi64), (10, yi64)]] else if i = 1050006 then zC [zN [(0, .vec .str), (1, yi64), (9, yi64), (10, yi64)], zX 4 [(0, .vec .str), (1, yi64), (9, yi64), (10, yi64)]] else if i = 1030005 then zC [zN [(0, .vec .str), (1, yi64), (9, yi64), (10, yi64)]] else if i = 3 then zL [(0, .vec .str), (1, yi64), (9, yi64), (10, yi64)] [zX 2 [(0, .vec .str), (1, yi64), (9, yi64), (10, yi64)]] else if i = 1030004 then zC [zN [(0, .vec .str), (1, yi64), (9, yi64), (10, yi64)], zX 2 [(0, .vec .str), (1, yi64), (9, yi64), (10, yi64)]] else none
def s_partEq_g : zG := [(101, s_less_c)]
theorem s_partEq_eq : EqS s_partEq_c s_partEq_g s_partEq_h 84 Tryz.f102 [8] [] := fun v => by kernel_rfl
def s_partition_c : Ctr := ⟨[.mu (.vec .str), .ro yi64, .ro yi64, .ro yi64], [.val yi64, .val .bool], fun v => Srt.partition s_less v.1 v.2.1 v.2.2.1 v.2.2.2.1⟩
def s_partition_h : zH := fun i => if i = 1130021 then zC [zN [(0, .vec .str), (1, yi64), (11, yi64)]] else if i = 100013 then zL [(0, .vec .str), (1, yi64), (10, yi64), (11, yi64)] [zX 4 [(0, .vec .str), (1, yi64), (11, yi64)]] else if i = 1170018 then zC [zX 4 [(0, .vec .str), (1, yi64), (11, yi64)], zN [(0, .vec .str), (1, yi64), (10, yi64), (11, yi64)]] else if i = 1150017 then zC [zN [(0, .vec .str), (1, yi64), (10, yi64), (11, yi64)]] else if i = 15 then zL [(0, .vec .str), (1, yi64), (10, yi64), (11, yi64)] [zX 8 [(0, .vec .str), (1, yi64), (10, yi64), (11, yi64)]] else if i = 1150016 then zC [zN [(0, .vec .str), (1, yi64), (10, yi64), (11, yi64)], zX 8 [(0, .vec .str), (1, yi64), (10, yi64), (11, yi64)]] else if i = 1130015 then zC [zN [(0, .vec .str), (1, yi64), (10, yi64), (11, yi64)]] else if i = 13 then zL [(0, .vec .str), (1, yi64), (10, yi64), (11, yi64)] [zX 6 [(0, .vec .str), (1, yi64), (10, yi64), (11, yi64)]] else if i = 1130014 then zC [zN [(0, .vec .str), (1, yi64), (10, yi64), (11, yi64)], zX 6 [(0, .vec .str), (1, yi64), (10, yi64), (11, yi64)]] else if i = 1070010 then zC [zR [(0, .vec .str), (8, yi64), (9, .bool)], zN [(0, .vec .str), (1, yi64), (10, yi64), (11, yi64)]] else if i = 1050007 then zC [zN [(0, .vec .str), (1, yi64), (10, yi64), (11, yi64)]] else if i = 5 then zL [(0, .vec .str), (1, yi64), (10, yi64), (11, yi64)] [zX 2 [(0, .vec .str), (1, yi64), (10, yi64), (11, yi64)]] else if i = 1050006 then zC [zN [(0, .vec .str), (1, yi64), (10, yi64), (11, yi64)], zX 2 [(0, .vec .str), (1, yi64), (10, yi64), (11, yi64)]] else if i = 1030005 then zC [zN [(0, .vec .str), (1, yi64), (10, yi64), (11, yi64)]] else if i = 3 then zL [(0, .vec .str), (1, yi64), (10, yi64), (11, yi64)] [zX 0 [(0, .vec .str), (1, yi64), (10, yi64), (11, yi64)]] else if i = 1030004 then zC [zN [(0, .vec .str), (1, yi64), (10, yi64), (11, yi64)], zX 0 [(0, .vec .str), (1, yi64), (10, yi64), (11, yi64)]] else none
def s_partition_g : zG := [(101, s_less_c)]
theorem s_partition_eq : EqS s_partition_c s_partition_g s_partition_h 168 Tryz.f103 [8, 9] [] := fun v => by kernel_rfl
def s_pdq0_c (s_pdqR : tW → Int → Int → Int → Option (tW × Unit)) : Ctr := ⟨[.mu (.vec .str), .ro yi64, .ro yi64, .ro yi64], [], fun v => Srt.pdq0 s_less s_pdqR v.1 v.2.1 v.2.2.1 v.2.2.2.1⟩
def s_pdq0_h : zH := fun i => if i = 2 then zL [(0, .vec .str), (1, yi64), (2, yi64), (3, yi64), (8, .bool), (9, .bool)] [zR [(0, .vec .str)]] else if i = 1170020 then zC [zX 1 [(0, .vec .str), (1, yi64), (2, yi64), (3, yi64), (8, .bool), (9, .bool)], zN [(0, .vec .str), (1, yi64), (2, yi64), (3, yi64), (10, yi64), (11, yi64)]] else if i = 1170018 then zC [zN [(0, .vec .str), (1, yi64), (2, yi64), (3, yi64), (8, .bool), (9, .bool), (10, yi64), (11, yi64), (87, .bool)]] else if i = 1150017 then zC [zR [(0, .vec .str)], zN [(0, .vec .str), (1, yi64), (2, yi64), (3, yi64), (8, .bool), (9, .bool), (10, yi64), (11, yi64)]] else if i = 1150016 then zC [zN [(0, .vec .str), (1, yi64), (2, yi64), (3, yi64), (8, .bool), (9, .bool), (10, yi64), (11, yi64), (68, .bool)]] else if i = 1110015 then zC [zN [(0, .vec .str), (1, yi64), (2, yi64), (3, yi64), (8, .bool), (9, .bool), (10, yi64), (11, yi64), (12, yi64)]] else if i = 1070010 then zC [zN [(0, .vec .str), (1, yi64), (2, yi64), (3, yi64), (8, .bool), (9, .bool), (10, yi64)]] else if i = 1050007 then zC [zR [(0, .vec .str)], zN [(0, .vec .str), (1, yi64), (2, yi64), (3, yi64), (8, .bool), (9, .bool), (10, yi64)]] else if i = 1030005 then zC [zR [(0, .vec .str)], zN [(0, .vec .str), (1, yi64), (2, yi64), (3, yi64), (8, .bool), (9, .bool), (10, yi64)]] else none
def s_pdq0_g (s_pdqR : tW → Int → Int → Int → Option (tW × Unit)) : List (Nat × Ctr) := [(101, s_less_c), (95, s_insSort_c), (96, s_heapSort_c), (97, s_breakPat_c), (98, s_choosePiv_c), (99, s_revRange_c), (100, s_partIns_c), (102, s_partEq_c), (103, s_partition_c), (74, (s_pdqR_cR s_pdqR))]
theorem s_pdq0_eq (s_pdqR : tW → Int → Int → Int → Option (tW × Unit)) (v : PDen (s_pdq0_c s_pdqR).ps) : semF tbl (gam (s_pdq0_g s_pdqR)) s_pdq0_h fuelN 134 (bodyOf Tryz.f74) [] (s_pdq0_c s_pdqR).ps (s_pdq0_c s_pdqR).rs [] [] v = (s_pdq0_c s_pdqR).g v := by kernel_rfl
def s_sortG_c (s_pdqR : tW → Int → Int → Int → Option (tW × Unit)) : Ctr := ⟨[.mu (.vec .str)], [], fun v => Srt.sortG s_pdqR v.1⟩
def s_sortG_h : zH := fun i => none
def s_sortG_g (s_pdqR : tW → Int → Int → Int → Option (tW × Unit)) : List (Nat × Ctr) := [(72, i_bitsLen_c), (74, (s_pdqR_cR s_pdqR))]
theorem s_sortG_eq (s_pdqR : tW → Int → Int → Int → Option (tW × Unit)) (v : PDen (s_sortG_c s_pdqR).ps) : semF tbl (gam (s_sortG_g s_pdqR)) s_sortG_h fuelN 11 (bodyOf Tryz.f54) [] (s_sortG_c s_pdqR).ps (s_sortG_c s_pdqR).rs [] [] v = (s_sortG_c s_pdqR).g v := by kernel_rfl
def c_insSort_c : Ctr := ⟨[.mu (.vec y0), .ro yi64, .ro yi64, .ro (.clo 52 .unit)], [], fun v => Srt.insSort c_less v.1 v.2.1 v.2.2.1⟩
def c_insSort_h : zH := fun i => if i = 1 then some ⟨⟨[(0, .vec y0), (1, yi64), (2, yi64), (8, yi64)], [(3, 52)], []⟩, [zX 0 [(0, .vec y0)]]⟩ else if i = 1030002 then some ⟨⟨[], [], []⟩, [(.normal, ⟨[(0, .vec y0), (1, yi64), (2, yi64), (8, yi64)], [(3, 52)], []⟩)]⟩ else if i = 4 then some ⟨⟨[(0, .vec y0), (1, yi64), (2, yi64), (8, yi64), (9, yi64)], [(3, 52)], []⟩, [((.exit 2), ⟨[(0, .vec y0), (1, yi64), (2, yi64), (8, yi64)], [(3, 52)], []⟩)]⟩ else if i = 1060005 then some ⟨⟨[], [], []⟩, [(.normal, ⟨[(0, .vec y0), (1, yi64), (2, yi64), (8, yi64), (9, yi64)], [(3, 52)], []⟩)]⟩ else if i = 1040006 then some ⟨⟨[], [], []⟩, [(.normal, ⟨[(0, .vec y0), (1, yi64), (2, yi64), (8, yi64), (9, yi64)], [(3, 52)], []⟩), ((.exit 2), ⟨[(0, .vec y0), (1, yi64), (2, yi64), (8, yi64)], [(3, 52)], []⟩)]⟩ else if i = 1010003 then some ⟨⟨[], [], []⟩, [(.normal, ⟨[(0, .vec y0), (1, yi64), (2, yi64), (8, yi64)], [(3, 52)], []⟩), zX 0 [(0, .vec y0)]]⟩ else none
def c_insSort_g : zG := [(52, c_cmp_c)]
theorem c_insSort_eq : EqS c_insSort_c c_insSort_g c_insSort_h 53 Tryz.f85 [] [] := fun v => by kernel_rfl
def c_siftDown_c : Ctr := ⟨[.mu (.vec y0), .ro yi64, .ro yi64, .ro yi64, .ro (.clo 52 .unit)], [], fun v => Srt.siftDown c_less v.1 v.2.1 v.2.2.1 v.2.2.2.1⟩
def c_siftDown_h : zH := fun i => if i = 1 then some ⟨⟨[(0, .vec y0), (2, yi64), (3, yi64), (10, yi64)], [(4, 52)], []⟩, [zX 0 [(0, .vec y0)], zR [(0, .vec y0)]]⟩ else if i = 1050006 then some ⟨⟨[], [], []⟩, [zR [(0, .vec y0)], (.normal, ⟨[(0, .vec y0), (2, yi64), (3, yi64), (10, yi64), (11, yi64)], [(4, 52)], []⟩)]⟩ else if i = 1030005 then some ⟨⟨[], [], []⟩, [(.normal, ⟨[(0, .vec y0), (2, yi64), (3, yi64), (10, yi64), (11, yi64)], [(4, 52)], []⟩)]⟩ else if i = 1030004 then some ⟨⟨[], [], []⟩, [(.normal, ⟨[(0, .vec y0), (2, yi64), (3, yi64), (10, yi64), (11, yi64), (40, .bool)], [(4, 52)], []⟩)]⟩ else if i = 1020003 then some ⟨⟨[], [], []⟩, [zX 0 [(0, .vec y0)], (.normal, ⟨[(0, .vec y0), (2, yi64), (3, yi64), (10, yi64), (11, yi64)], [(4, 52)], []⟩)]⟩ else none
def c_siftDown_g : zG := [(52, c_cmp_c)]
theorem c_siftDown_eq : EqS c_siftDown_c c_siftDown_g c_siftDown_h 82 Tryz.f107 [] [] := fun v => by kernel_rfl
def c_heapSort_c : Ctr := ⟨[.mu (.vec y0), .ro yi64, .ro yi64, .ro (.clo 52 .unit)], [], fun v => Srt.heapSort c_less v.1 v.2.1 v.2.2.1⟩
def c_heapSort_h : zH := fun i => if i = 8 then some ⟨⟨[(0, .vec y0), (8, yi64), (9, yi64), (12, yi64)], [(3, 52)], []⟩, [zX 2 [(0, .vec y0)]]⟩ else if i = 1100009 then some ⟨⟨[], [], []⟩, [(.normal, ⟨[(0, .vec y0), (8, yi64), (9, yi64), (12, yi64)], [(3, 52)], []⟩)]⟩ else if i = 1080010 then some ⟨⟨[], [], []⟩, [(.normal, ⟨[(0, .vec y0), (8, yi64), (9, yi64), (12, yi64)], [(3, 52)], []⟩), zX 2 [(0, .vec y0)]]⟩ else if i = 1030007 then some ⟨⟨[], [], []⟩, [(.normal, ⟨[(0, .vec y0), (8, yi64), (9, yi64), (10, yi64)], [(3, 52)], []⟩)]⟩ else if i = 4 then some ⟨⟨[(0, .vec y0), (8, yi64), (9, yi64), (10, yi64), (11, yi64)], [(3, 52)], []⟩, [((.exit 0), ⟨[(0, .vec y0), (8, yi64), (9, yi64), (10, yi64)], [(3, 52)], []⟩)]⟩ else if i = 1060005 then some ⟨⟨[], [], []⟩, [(.normal, ⟨[(0, .vec y0), (8, yi64), (9, yi64), (10, yi64), (11, yi64)], [(3, 52)], []⟩)]⟩ else if i = 1040006 then some ⟨⟨[], [], []⟩, [(.normal, ⟨[(0, .vec y0), (8, yi64), (9, yi64), (10, yi64), (11, yi64)], [(3, 52)], []⟩), ((.exit 0), ⟨[(0, .vec y0), (8, yi64), (9, yi64), (10, yi64)], [(3, 52)], []⟩)]⟩ else none
def c_heapSort_g : zG := [(107, c_siftDown_c)]
theorem c_heapSort_eq : EqS c_heapSort_c c_heapSort_g c_heapSort_h 60 Tryz.f86 [] [] := fun v => by kernel_rfl
def c_breakPat_c : Ctr := ⟨[.mu (.vec y0), .ro yi64, .ro yi64, .ro (.clo 52 .unit)], [], fun v => Srt.breakPat v.1 v.2.1 v.2.2.1⟩
def c_breakPat_h : zH := fun i => if i = 5 then zL [(0, .vec y0), (1, yi64), (8, yi64), (9, .bx yu64), (10, yu64), (11, yi64)] [zX 0 [(0, .vec y0)]] else if i = 1070006 then zC [zN [(0, .vec y0), (1, yi64), (8, yi64), (9, .bx yu64), (10, yu64), (11, yi64)]] else if i = 1080010 then zC [zN [(0, .vec y0), (1, yi64), (8, yi64), (9, .bx yu64), (10, yu64), (11, yi64), (12, yi64)]] else if i = 1050007 then zC [zN [(0, .vec y0), (1, yi64), (8, yi64), (9, .bx yu64), (10, yu64), (11, yi64)], zX 0 [(0, .vec y0)]] else none
def c_breakPat_g : zG := [(108, i_nextPow_c), (109, i_xorNext_c)]
theorem c_breakPat_eq : EqS c_breakPat_c c_breakPat_g c_breakPat_h 67 Tryz.f87 [] [] := fun v => by kernel_rfl
def c_order2_c : Ctr := ⟨[.ro s0, .ro yi64, .ro yi64, .mu (.bx yi64), .ro (.clo 52 .unit)], [.val yi64, .val yi64], fun v => Srt.order2 c_less v.1 v.2.1 v.2.2.1 v.2.2.2.1⟩
def c_order2_h : zH := fun i => if i = 1010004 then zC [zR [(3, .bx yi64), (10, yi64), (11, yi64)], zN [(1, yi64), (2, yi64), (3, .bx yi64)]] else none
def c_order2_g : zG := [(52, c_cmp_c)]
theorem c_order2_eq : EqS c_order2_c c_order2_g c_order2_h 32 Tryz.f126 [10, 11] [] := fun v => by kernel_rfl
def c_median_c : Ctr := ⟨[.ro s0, .ro yi64, .ro yi64, .ro yi64, .mu (.bx yi64), .ro (.clo 52 .unit)], [.val yi64], fun v => Srt.median c_less v.1 v.2.1 v.2.2.1 v.2.2.2.1 v.2.2.2.2.1⟩
def c_median_g : zG := [(126, c_order2_c)]
theorem c_median_eq : EqS c_median_c c_median_g h0 41 Tryz.f111 [12] [] := fun v => by kernel_rfl
def c_medianAdj_c : Ctr := ⟨[.ro s0, .ro yi64, .mu (.bx yi64), .ro (.clo 52 .unit)], [.val yi64], fun v => Srt.medianAdj c_less v.1 v.2.1 v.2.2.1⟩
def c_medianAdj_g : zG := [(111, c_median_c)]
theorem c_medianAdj_eq : EqS c_medianAdj_c c_medianAdj_g h0 18 Tryz.f110 [8] [] := fun v => by kernel_rfl
def c_choosePiv_c : Ctr := ⟨[.ro s0, .ro yi64, .ro yi64, .ro (.clo 52 .unit)], [.val yi64, .val yi64], fun v => Srt.choosePiv c_less v.1 v.2.1 v.2.2.1⟩
def c_choosePiv_h : zH := fun i => if i = 1060012 then zC [zN [(11, .bx yi64), (13, yi64)]] else if i = 1070011 then some ⟨⟨[], [], []⟩, [(.normal, ⟨[(0, s0), (11, .bx yi64), (12, yi64), (13, yi64), (14, yi64)], [(3, 52)], []⟩)]⟩ else none
def c_choosePiv_g : zG := [(111, c_median_c), (110, c_medianAdj_c)]
theorem c_choosePiv_eq : EqS c_choosePiv_c c_choosePiv_g c_choosePiv_h 63 Tryz.f88 [8, 9] [] := fun v => by kernel_rfl
def c_revRange_c : Ctr := ⟨[.mu (.vec y0), .ro yi64, .ro yi64, .ro (.clo 52 .unit)], [], fun v => Srt.revRange v.1 v.2.1 v.2.2.1⟩
def c_revRange_h : zH := fun i => if i = 2 then zL [(0, .vec y0), (8, yi64), (9, yi64)] [zX 0 [(0, .vec y0)]] else if i = 1020003 then zC [zN [(0, .vec y0), (8, yi64), (9, yi64)], zX 0 [(0, .vec y0)]] else none
theorem c_revRange_eq : EqS c_revRange_c [] c_revRange_h 34 Tryz.f89 [] [] := fun v => by kernel_rfl
def c_partIns_c : Ctr := ⟨[.mu (.vec y0), .ro yi64, .ro yi64, .ro (.clo 52 .unit)], [.val .bool], fun v => Srt.partIns c_less v.1 v.2.1 v.2.2.1⟩
def c_partIns_h : zH := fun i => if i = 3 then some ⟨⟨[(0, .vec y0), (1, yi64), (2, yi64), (9, yi64), (10, yi64)], [(3, 52)], []⟩, [zR [(0, .vec y0), (8, .bool)], zX 0 [(0, .vec y0)]]⟩ else if i = 1050004 then some ⟨⟨[], [], []⟩, [zR [(0, .vec y0), (8, .bool)], (.normal, ⟨[(0, .vec y0), (1, yi64), (2, yi64), (9, yi64), (10, yi64)], [(3, 52)], []⟩)]⟩ else if i = 20 then some ⟨⟨[(0, .vec y0), (1, yi64), (2, yi64), (9, yi64), (10, yi64), (12, yi64)], [(3, 52)], []⟩, [((.exit 6), ⟨[(0, .vec y0), (1, yi64), (2, yi64), (9, yi64), (10, yi64)], [(3, 52)], []⟩)]⟩ else if i = 1220021 then some ⟨⟨[], [], []⟩, [((.exit 6), ⟨[(0, .vec y0), (1, yi64), (2, yi64), (9, yi64), (10, yi64)], [(3, 52)], []⟩), (.normal, ⟨[(0, .vec y0), (1, yi64), (2, yi64), (9, yi64), (10, yi64), (12, yi64)], [(3, 52)], []⟩)]⟩ else if i = 1220023 then some ⟨⟨[], [], []⟩, [((.exit 6), ⟨[(0, .vec y0), (1, yi64), (2, yi64), (9, yi64), (10, yi64)], [(3, 52)], []⟩), (.normal, ⟨[(0, .vec y0), (1, yi64), (2, yi64), (9, yi64), (10, yi64), (12, yi64)], [(3, 52)], []⟩)]⟩ else if i = 1200022 then some ⟨⟨[], [], []⟩, [(.normal, ⟨[(0, .vec y0), (1, yi64), (2, yi64), (9, yi64), (10, yi64), (12, yi64)], [(3, 52)], []⟩), ((.exit 6), ⟨[(0, .vec y0), (1, yi64), (2, yi64), (9, yi64), (10, yi64)], [(3, 52)], []⟩)]⟩ else if i = 1120018 then some ⟨⟨[], [], []⟩, [(.normal, ⟨[(0, .vec y0), (1, yi64), (2, yi64), (9, yi64), (10, yi64)], [(3, 52)], []⟩)]⟩ else if i = 14 then some ⟨⟨[(0, .vec y0), (1, yi64), (2, yi64), (9, yi64), (10, yi64), (11, yi64)], [(3, 52)], []⟩, [((.exit 4), ⟨[(0, .vec y0), (1, yi64), (2, yi64), (9, yi64), (10, yi64)], [(3, 52)], []⟩)]⟩ else if i = 1160015 then some ⟨⟨[], [], []⟩, [((.exit 4), ⟨[(0, .vec y0), (1, yi64), (2, yi64), (9, yi64), (10, yi64)], [(3, 52)], []⟩), (.normal, ⟨[(0, .vec y0), (1, yi64), (2, yi64), (9, yi64), (10, yi64), (11, yi64)], [(3, 52)], []⟩)]⟩ else if i = 1160017 then some ⟨⟨[], [], []⟩, [((.exit 4), ⟨[(0, .vec y0), (1, yi64), (2, yi64), (9, yi64), (10, yi64)], [(3, 52)], []⟩), (.normal, ⟨[(0, .vec y0), (1, yi64), (2, yi64), (9, yi64), (10, yi64), (11, yi64)], [(3, 52)], []⟩)]⟩ else if i = 1140016 then some ⟨⟨[], [], []⟩, [(.normal, ⟨[(0, .vec y0), (1, yi64), (2, yi64), (9, yi64), (10, yi64), (11, yi64)], [(3, 52)], []⟩), ((.exit 4), ⟨[(0, .vec y0), (1, yi64), (2, yi64), (9, yi64), (10, yi64)], [(3, 52)], []⟩)]⟩ else if i = 1090011 then some ⟨⟨[], [], []⟩, [zR [(0, .vec y0), (8, .bool)], (.normal, ⟨[(0, .vec y0), (1, yi64), (2, yi64), (9, yi64), (10, yi64)], [(3, 52)], []⟩)]⟩ else if i = 1070009 then some ⟨⟨[], [], []⟩, [zR [(0, .vec y0), (8, .bool)], (.normal, ⟨[(0, .vec y0), (1, yi64), (2, yi64), (9, yi64), (10, yi64)], [(3, 52)], []⟩)]⟩ else if i = 1050007 then some ⟨⟨[], [], []⟩, [(.normal, ⟨[(0, .vec y0), (1, yi64), (2, yi64), (9, yi64), (10, yi64)], [(3, 52)], []⟩)]⟩ else if i = 5 then some ⟨⟨[(0, .vec y0), (1, yi64), (2, yi64), (9, yi64), (10, yi64)], [(3, 52)], []⟩, [((.exit 2), ⟨[(0, .vec y0), (1, yi64), (2, yi64), (9, yi64), (10, yi64)], [(3, 52)], []⟩)]⟩ else if i = 1050006 then some ⟨⟨[], [], []⟩, [(.normal, ⟨[(0, .vec y0), (1, yi64), (2, yi64), (9, yi64), (10, yi64)], [(3, 52)], []⟩), ((.exit 2), ⟨[(0, .vec y0), (1, yi64), (2, yi64), (9, yi64), (10, yi64)], [(3, 52)], []⟩)]⟩ else if i = 1030005 then some ⟨⟨[], [], []⟩, [(.normal, ⟨[(0, .vec y0), (1, yi64), (2, yi64), (9, yi64), (10, yi64)], [(3, 52)], []⟩), zX 0 [(0, .vec y0)]]⟩ else none
def c_partIns_g : zG := [(52, c_cmp_c)]
theorem c_partIns_eq : EqS c_partIns_c c_partIns_g c_partIns_h 141 Tryz.f90 [8] [] := fun v => by kernel_rfl
def c_partEq_c : Ctr := ⟨[.mu (.vec y0), .ro yi64, .ro yi64, .ro yi64, .ro (.clo 52 .unit)], [.val yi64], fun v => Srt.partEq c_less v.1 v.2.1 v.2.2.1 v.2.2.2.1⟩
def c_partEq_h : zH := fun i => if i = 100003 then some ⟨⟨[(0, .vec y0), (1, yi64), (11, yi64), (12, yi64)], [(4, 52)], []⟩, [zX 0 [(0, .vec y0), (11, yi64)]]⟩ else if i = 1070008 then some ⟨⟨[], [], []⟩, [zX 0 [(0, .vec y0), (11, yi64)], (.normal, ⟨[(0, .vec y0), (1, yi64), (11, yi64), (12, yi64)], [(4, 52)], []⟩)]⟩ else if i = 1050007 then some ⟨⟨[], [], []⟩, [(.normal, ⟨[(0, .vec y0), (1, yi64), (11, yi64), (12, yi64)], [(4, 52)], []⟩)]⟩ else if i = 5 then some ⟨⟨[(0, .vec y0), (1, yi64), (11, yi64), (12, yi64)], [(4, 52)], []⟩, [((.exit 4), ⟨[(0, .vec y0), (1, yi64), (11, yi64), (12, yi64)], [(4, 52)], []⟩)]⟩ else if i = 1050006 then some ⟨⟨[], [], []⟩, [(.normal, ⟨[(0, .vec y0), (1, yi64), (11, yi64), (12, yi64)], [(4, 52)], []⟩), ((.exit 4), ⟨[(0, .vec y0), (1, yi64), (11, yi64), (12, yi64)], [(4, 52)], []⟩)]⟩ else if i = 1030005 then some ⟨⟨[], [], []⟩, [(.normal, ⟨[(0, .vec y0), (1, yi64), (11, yi64), (12, yi64)], [(4, 52)], []⟩)]⟩ else if i = 3 then some ⟨⟨[(0, .vec y0), (1, yi64), (11, yi64), (12, yi64)], [(4, 52)], []⟩, [((.exit 2), ⟨[(0, .vec y0), (1, yi64), (11, yi64), (12, yi64)], [(4, 52)], []⟩)]⟩ else if i = 1030004 then some ⟨⟨[], [], []⟩, [(.normal, ⟨[(0, .vec y0), (1, yi64), (11, yi64), (12, yi64)], [(4, 52)], []⟩), ((.exit 2), ⟨[(0, .vec y0), (1, yi64), (11, yi64), (12, yi64)], [(4, 52)], []⟩)]⟩ else none
def c_partEq_g : zG := [(52, c_cmp_c)]
theorem c_partEq_eq : EqS c_partEq_c c_partEq_g c_partEq_h 90 Tryz.f91 [10] [] := fun v => by kernel_rfl
def c_partition_c : Ctr := ⟨[.mu (.vec y0), .ro yi64, .ro yi64, .ro yi64, .ro (.clo 52 .unit)], [.val yi64, .val .bool], fun v => Srt.partition c_less v.1 v.2.1 v.2.2.1 v.2.2.2.1⟩
def c_partition_h : zH := fun i => if i = 1130021 then zC [zN [(0, .vec y0), (1, yi64), (13, yi64)]] else if i = 100013 then some ⟨⟨[(0, .vec y0), (1, yi64), (12, yi64), (13, yi64)], [(4, 52)], []⟩, [zX 4 [(0, .vec y0), (1, yi64), (13, yi64)]]⟩ else if i = 1170018 then some ⟨⟨[], [], []⟩, [zX 4 [(0, .vec y0), (1, yi64), (13, yi64)], (.normal, ⟨[(0, .vec y0), (1, yi64), (12, yi64), (13, yi64)], [(4, 52)], []⟩)]⟩ else if i = 1150017 then some ⟨⟨[], [], []⟩, [(.normal, ⟨[(0, .vec y0), (1, yi64), (12, yi64), (13, yi64)], [(4, 52)], []⟩)]⟩ else if i = 15 then some ⟨⟨[(0, .vec y0), (1, yi64), (12, yi64), (13, yi64)], [(4, 52)], []⟩, [((.exit 8), ⟨[(0, .vec y0), (1, yi64), (12, yi64), (13, yi64)], [(4, 52)], []⟩)]⟩ else if i = 1150016 then some ⟨⟨[], [], []⟩, [(.normal, ⟨[(0, .vec y0), (1, yi64), (12, yi64), (13, yi64)], [(4, 52)], []⟩), ((.exit 8), ⟨[(0, .vec y0), (1, yi64), (12, yi64), (13, yi64)], [(4, 52)], []⟩)]⟩ else if i = 1130015 then some ⟨⟨[], [], []⟩, [(.normal, ⟨[(0, .vec y0), (1, yi64), (12, yi64), (13, yi64)], [(4, 52)], []⟩)]⟩ else if i = 13 then some ⟨⟨[(0, .vec y0), (1, yi64), (12, yi64), (13, yi64)], [(4, 52)], []⟩, [((.exit 6), ⟨[(0, .vec y0), (1, yi64), (12, yi64), (13, yi64)], [(4, 52)], []⟩)]⟩ else if i = 1130014 then some ⟨⟨[], [], []⟩, [(.normal, ⟨[(0, .vec y0), (1, yi64), (12, yi64), (13, yi64)], [(4, 52)], []⟩), ((.exit 6), ⟨[(0, .vec y0), (1, yi64), (12, yi64), (13, yi64)], [(4, 52)], []⟩)]⟩ else if i = 1070010 then some ⟨⟨[], [], []⟩, [zR [(0, .vec y0), (10, yi64), (11, .bool)], (.normal, ⟨[(0, .vec y0), (1, yi64), (12, yi64), (13, yi64)], [(4, 52)], []⟩)]⟩ else if i = 1050007 then some ⟨⟨[], [], []⟩, [(.normal, ⟨[(0, .vec y0), (1, yi64), (12, yi64), (13, yi64)], [(4, 52)], []⟩)]⟩ else if i = 5 then some ⟨⟨[(0, .vec y0), (1, yi64), (12, yi64), (13, yi64)], [(4, 52)], []⟩, [((.exit 2), ⟨[(0, .vec y0), (1, yi64), (12, yi64), (13, yi64)], [(4, 52)], []⟩)]⟩ else if i = 1050006 then some ⟨⟨[], [], []⟩, [(.normal, ⟨[(0, .vec y0), (1, yi64), (12, yi64), (13, yi64)], [(4, 52)], []⟩), ((.exit 2), ⟨[(0, .vec y0), (1, yi64), (12, yi64), (13, yi64)], [(4, 52)], []⟩)]⟩ else if i = 1030005 then some ⟨⟨[], [], []⟩, [(.normal, ⟨[(0, .vec y0), (1, yi64), (12, yi64), (13, yi64)], [(4, 52)], []⟩)]⟩ else if i = 3 then some ⟨⟨[(0, .vec y0), (1, yi64), (12, yi64), (13, yi64)], [(4, 52)], []⟩, [((.exit 0), ⟨[(0, .vec y0), (1, yi64), (12, yi64), (13, yi64)], [(4, 52)], []⟩)]⟩ else if i = 1030004 then some ⟨⟨[], [], []⟩, [(.normal, ⟨[(0, .vec y0), (1, yi64), (12, yi64), (13, yi64)], [(4, 52)], []⟩), ((.exit 0), ⟨[(0, .vec y0), (1, yi64), (12, yi64), (13, yi64)], [(4, 52)], []⟩)]⟩ else none
def c_partition_g : zG := [(52, c_cmp_c)]
theorem c_partition_eq : EqS c_partition_c c_partition_g c_partition_h 178 Tryz.f92 [10, 11] [] := fun v => by kernel_rfl
def c_pdq0_c (c_pdqR : tC → Int → Int → Int → Option (tC × Unit)) : Ctr := ⟨[.mu (.vec y0), .ro yi64, .ro yi64, .ro yi64, .ro (.clo 52 .unit)], [], fun v => Srt.pdq0 c_less c_pdqR v.1 v.2.1 v.2.2.1 v.2.2.2.1⟩
def c_pdq0_h : zH := fun i => if i = 2 then some ⟨⟨[(0, .vec y0), (1, yi64), (2, yi64), (3, yi64), (10, .bool), (11, .bool)], [(4, 52)], []⟩, [zR [(0, .vec y0)]]⟩ else if i = 1170020 then some ⟨⟨[], [], []⟩, [((.exit 1), ⟨[(0, .vec y0), (1, yi64), (2, yi64), (3, yi64), (10, .bool), (11, .bool)], [(4, 52)], []⟩), (.normal, ⟨[(0, .vec y0), (1, yi64), (2, yi64), (3, yi64), (12, yi64), (13, yi64)], [(4, 52)], []⟩)]⟩ else if i = 1170018 then some ⟨⟨[], [], []⟩, [(.normal, ⟨[(0, .vec y0), (1, yi64), (2, yi64), (3, yi64), (10, .bool), (11, .bool), (12, yi64), (13, yi64), (97, .bool)], [(4, 52)], []⟩)]⟩ else if i = 1150017 then some ⟨⟨[], [], []⟩, [zR [(0, .vec y0)], (.normal, ⟨[(0, .vec y0), (1, yi64), (2, yi64), (3, yi64), (10, .bool), (11, .bool), (12, yi64), (13, yi64)], [(4, 52)], []⟩)]⟩ else if i = 1150016 then some ⟨⟨[], [], []⟩, [(.normal, ⟨[(0, .vec y0), (1, yi64), (2, yi64), (3, yi64), (10, .bool), (11, .bool), (12, yi64), (13, yi64), (75, .bool)], [(4, 52)], []⟩)]⟩ else if i = 1110015 then some ⟨⟨[], [], []⟩, [(.normal, ⟨[(0, .vec y0), (1, yi64), (2, yi64), (3, yi64), (10, .bool), (11, .bool), (12, yi64), (13, yi64), (14, yi64)], [(4, 52)], []⟩)]⟩ else if i = 1070010 then some ⟨⟨[], [], []⟩, [(.normal, ⟨[(0, .vec y0), (1, yi64), (2, yi64), (3, yi64), (10, .bool), (11, .bool), (12, yi64)], [(4, 52)], []⟩)]⟩ else if i = 1050007 then some ⟨⟨[], [], []⟩, [zR [(0, .vec y0)], (.normal, ⟨[(0, .vec y0), (1, yi64), (2, yi64), (3, yi64), (10, .bool), (11, .bool), (12, yi64)], [(4, 52)], []⟩)]⟩ else if i = 1030005 then some ⟨⟨[], [], []⟩, [zR [(0, .vec y0)], (.normal, ⟨[(0, .vec y0), (1, yi64), (2, yi64), (3, yi64), (10, .bool), (11, .bool), (12, yi64)], [(4, 52)], []⟩)]⟩ else none
def c_pdq0_g (c_pdqR : tC → Int → Int → Int → Option (tC × Unit)) : List (Nat × Ctr) := [(52, c_cmp_c), (85, c_insSort_c), (86, c_heapSort_c), (87, c_breakPat_c), (88, c_choosePiv_c), (89, c_revRange_c), (90, c_partIns_c), (91, c_partEq_c), (92, c_partition_c), (71, (c_pdqR_cR c_pdqR))]
theorem c_pdq0_eq (c_pdqR : tC → Int → Int → Int → Option (tC × Unit)) (v : PDen (c_pdq0_c c_pdqR).ps) : semF tbl (gam (c_pdq0_g c_pdqR)) c_pdq0_h fuelN 148 (bodyOf Tryz.f71) [] (c_pdq0_c c_pdqR).ps (c_pdq0_c c_pdqR).rs [] [] v = (c_pdq0_c c_pdqR).g v := by kernel_rfl
def c_sortG_c (c_pdqR : tC → Int → Int → Int → Option (tC × Unit)) : Ctr := ⟨[.mu (.vec y0), .ro (.clo 52 .unit)], [], fun v => Srt.sortG c_pdqR v.1⟩
def c_sortG_h : zH := fun i => none
def c_sortG_g (c_pdqR : tC → Int → Int → Int → Option (tC × Unit)) : List (Nat × Ctr) := [(72, i_bitsLen_c), (71, (c_pdqR_cR c_pdqR))]
theorem c_sortG_eq (c_pdqR : tC → Int → Int → Int → Option (tC × Unit)) (v : PDen (c_sortG_c c_pdqR).ps) : semF tbl (gam (c_sortG_g c_pdqR)) c_sortG_h fuelN 14 (bodyOf Tryz.f51) [] (c_sortG_c c_pdqR).ps (c_sortG_c c_pdqR).rs [] [] v = (c_sortG_c c_pdqR).g v := by kernel_rfl
section
variable [Inhabited FuelW]
def refSame_s4 (a0 : tC) (a1 : tC) (a5 : Int) : Option ((tC × tC × Int × Unit) ⊕ ((Bool × Unit) ⊕ Unit)) :=
 ((show Option ((tC × tC × Int × Unit) ⊕ Unit) from
 bif (decide (a5 < (a0.length : Int))) then
 some (.inl (a0, a1, a5, ()))
 else
 some (.inr ())).bind fun y6 =>
 (match y6 with
 | .inl y6 =>
 ((show Option ((Bool × Unit) ⊕ (tC × tC × Int × Unit)) from
 ((lk y6.1 y6.2.2.1).bind fun x8 =>
 ((lk y6.2.1 y6.2.2.1).bind fun x9 =>
 bif (!((decide (x8.1 = x9.1) && decide (x8.2 = x9.2)))) then
 some (.inl (false, ()))
 else
 some (.inr (y6.1, y6.2.1, y6.2.2.1, ()))))).bind fun y10 =>
 (match y10 with
 | .inl y10 =>
 some (.inr (.inl (y10.1, ())))
 | .inr y10 =>
 some (.inl (y10.1, y10.2.1, (IntKind.i64.wrap (y10.2.2.1 + 1)), ()))))
 | .inr y6 =>
 some (.inr (.inr ()))))
def refSame (p0 : tC) (p1 : tC) : Option (Unit × Bool × Unit) :=
 ((show Option ((Bool × Unit) ⊕ (tC × tC × Unit)) from
 bif ((p0.length : Int) != (p1.length : Int)) then
 some (.inl (false, ()))
 else
 some (.inr (p0, p1, ()))).bind fun y2 =>
 (match y2 with
 | .inl y2 =>
 some ((), y2.1, ())
 | .inr y2 =>
 ((iterN (fun x => refSame_s4 x.1 x.2.1 x.2.2.1) fuN (y2.1, y2.2.1, (0 : Int), ())).bind fun y11 =>
 (match y11 with
 | .inl y11 =>
 some ((), y11.1, ())
 | .inr y11 =>
 some ((), true, ())))))
def refSame_c : Ctr := ⟨[.ro s0, .ro s0], [.val .bool], fun v => refSame v.1 v.2.1⟩
def refSame_h : zH := fun i => if i = 4 then zL [(0, s0), (1, s0), (5, yi64)] [zR [(4, .bool)], zX 0 []] else if i = 1060005 then zC [zR [(4, .bool)], zN [(0, s0), (1, s0), (5, yi64)]] else if i = 1040006 then zC [zN [(0, s0), (1, s0), (5, yi64)], zX 0 []] else if i = 1010003 then zC [zR [(4, .bool)], zN [(0, s0), (1, s0)]] else none
theorem refSame_eq : EqB refSame_c [] refSame_h 26 Tryz.f24 [4] [] := fun v => by kernel_rfl
def refClipped_s2 (a0 : tC) (a3 : tC) (a4 : Int) : Option ((tC × tC × Int × Unit) ⊕ (tC × Unit)) :=
 ((show Option ((tC × tC × Int × Unit) ⊕ (tC × Unit)) from
 bif (decide (a4 < (a0.length : Int))) then
 some (.inl (a0, a3, a4, ()))
 else
 some (.inr (a3, ()))).bind fun y4 =>
 (match y4 with
 | .inl y4 =>
 ((show Option (tC × tC × Int × Unit) from
 ((lk y4.1 y4.2.2.1).bind fun x6 =>
 ((show Option (tC × tC × Int × (Int × Int) × Unit) from
 bif (decide (x6.1 < 0)) then
 some (y4.1, y4.2.1, y4.2.2.1, ((0 : Int), x6.2), ())
 else
 some (y4.1, y4.2.1, y4.2.2.1, x6, ())).bind fun y8 =>
 ((show Option (tC × tC × Int × (Int × Int) × Unit) from
 bif (decide (y8.2.2.2.1.2 > 1114111)) then
 some (y8.1, y8.2.1, y8.2.2.1, (y8.2.2.2.1.1, (1114111 : Int)), ())
 else
 some (y8.1, y8.2.1, y8.2.2.1, y8.2.2.2.1, ())).bind fun y10 =>
 bif (decide (y10.2.2.2.1.1 ≤ y10.2.2.2.1.2)) then
 bif (roomOk (y10.2.1.length + [y10.2.2.2.1].length) 8) then
 some (y10.1, (y10.2.1 ++ [y10.2.2.2.1]), y10.2.2.1, ())
 else none
 else
 some (y10.1, y10.2.1, y10.2.2.1, ()))))).bind fun y11 =>
 some (.inl (y11.1, y11.2.1, (IntKind.i64.wrap (y11.2.2.1 + 1)), ())))
 | .inr y4 =>
 some (.inr (y4.1, ()))))
def refClipped (p0 : tC) : Option (Unit × tC × Unit) :=
 ((iterN (fun x => refClipped_s2 x.1 x.2.1 x.2.2.1) fuN (p0, ([] : tC), (0 : Int), ())).bind fun y12 =>
 some ((), y12.1, ()))
def refClipped_c : Ctr := ⟨[.ro s0], [.val s0], fun v => refClipped v.1⟩
def refClipped_h : zH := fun i => if i = 3 then zL [(0, s0), (3, .vec y0), (4, yi64)] [zX 0 [(3, .vec y0)]] else if i = 1050004 then zC [zN [(0, s0), (3, .vec y0), (4, yi64)]] else if i = 1080010 then zC [zN [(0, s0), (3, .vec y0), (4, yi64), (5, .bx y0)]] else if i = 1060008 then zC [zN [(0, s0), (3, .vec y0), (4, yi64), (5, .bx y0)]] else if i = 1030005 then zC [zN [(0, s0), (3, .vec y0), (4, yi64)], zX 0 [(3, .vec y0)]] else none
theorem refClipped_eq : EqB refClipped_c [] refClipped_h 34 Tryz.f47 [2] [] := fun v => by kernel_rfl
def refSorted0_s8 (a3 : tC) (a4 : tC) (a5 : tC) (a6 : Int) (a7 : Int) : Option ((tC × tC × tC × Int × Int × Unit) ⊕ (tC × Unit)) :=
 ((show Option ((tC × tC × tC × Int × Int × Unit) ⊕ (tC × Unit)) from
 bif (decide (a6 < (a3.length : Int))) then
 some (.inl (a3, a4, a5, a6, a7, ()))
 else
 bif (decide (a7 < (a4.length : Int))) then
 some (.inl (a3, a4, a5, a6, a7, ()))
 else
 some (.inr (a5, ()))).bind fun y10 =>
 (match y10 with
 | .inl y10 =>
 ((show Option (tC × tC × tC × Int × Int × Bool × Unit) from
 bif (y10.2.2.2.2.1 == (y10.2.1.length : Int)) then
 some (y10.1, y10.2.1, y10.2.2.1, y10.2.2.2.1, y10.2.2.2.2.1, true, ())
 else
 bif (decide (y10.2.2.2.1 < (y10.1.length : Int))) then
 ((lk y10.1 y10.2.2.2.1).bind fun x12 =>
 ((lk y10.2.1 y10.2.2.2.2.1).bind fun x13 =>
 some (y10.1, y10.2.1, y10.2.2.1, y10.2.2.2.1, y10.2.2.2.2.1, (decide (x12.1 ≤ x13.1)), ())))
 else
 some (y10.1, y10.2.1, y10.2.2.1, y10.2.2.2.1, y10.2.2.2.2.1, false, ())).bind fun y14 =>
 bif y14.2.2.2.2.2.1 then
 ((lk y14.1 y14.2.2.2.1).bind fun x15 =>
 bif (roomOk (y14.2.2.1.length + [x15].length) 8) then
 some (.inl (y14.1, y14.2.1, (y14.2.2.1 ++ [x15]), (IntKind.i64.wrap (y14.2.2.2.1 + 1)), y14.2.2.2.2.1, ()))
 else none)
 else
 ((lk y14.2.1 y14.2.2.2.2.1).bind fun x16 =>
 bif (roomOk (y14.2.2.1.length + [x16].length) 8) then
 some (.inl (y14.1, y14.2.1, (y14.2.2.1 ++ [x16]), y14.2.2.2.1, (IntKind.i64.wrap (y14.2.2.2.2.1 + 1)), ()))
 else none))
 | .inr y10 =>
 some (.inr (y10.1, ()))))
def refSorted0 (refSorted : tC → Option (Unit × tC × Unit)) (p0 : tC) : Option (Unit × tC × Unit) :=
 ((show Option ((tC × Unit) ⊕ (tC × Unit)) from
 bif (decide ((p0.length : Int) < 2)) then
 some (.inl (p0, ()))
 else
 some (.inr (p0, ()))).bind fun y2 =>
 (match y2 with
 | .inl y2 =>
 some ((), y2.1, ())
 | .inr y2 =>
 bif ((2 : Int) != 0) then
 bif (inB (0 : Int) (IntKind.i64.wrap (Int.tdiv (y2.1.length : Int) (2 : Int))) y2.1.length) then
 let v3 := (cut y2.1 (0 : Int) (IntKind.i64.wrap (Int.tdiv (y2.1.length : Int) (2 : Int))))
 ((refSorted v3).bind fun r4 =>
 bif ((2 : Int) != 0) then
 bif (inB (IntKind.i64.wrap (Int.tdiv (y2.1.length : Int) (2 : Int))) (y2.1.length : Int) y2.1.length) then
 let v5 := (cut y2.1 (IntKind.i64.wrap (Int.tdiv (y2.1.length : Int) (2 : Int))) (y2.1.length : Int))
 ((refSorted v5).bind fun r6 =>
 ((iterN (fun x => refSorted0_s8 x.1 x.2.1 x.2.2.1 x.2.2.2.1 x.2.2.2.2.1) fuN (r4.2.1, r6.2.1, ([] : tC), (0 : Int), (0 : Int), ())).bind fun y17 =>
 some ((), y17.1, ())))
 else none
 else none)
 else none
 else none))
def refSorted0_c (refSorted : tC → Option (Unit × tC × Unit)) : Ctr := ⟨[.ro s0], [.val s0], fun v => refSorted0 refSorted v.1⟩
def refSorted0_h : zH := fun i => if i = 6 then zL [(3, s0), (4, s0), (5, .vec y0), (6, yi64), (7, yi64)] [zX 0 [(5, .vec y0)]] else if i = 1070008 then zC [zN [(3, s0), (4, s0), (5, .vec y0), (6, yi64), (7, yi64), (56, .bool)]] else if i = 1060007 then zC [zN [(3, s0), (4, s0), (5, .vec y0), (6, yi64), (7, yi64)], zX 0 [(5, .vec y0)]] else if i = 1010003 then zC [zR [(2, s0)], zN [(0, s0)]] else none
def refSorted0_g (refSorted : tC → Option (Unit × tC × Unit)) : List (Nat × Ctr) := [(46, (refSorted_cR refSorted))]
theorem refSorted0_eq (refSorted : tC → Option (Unit × tC × Unit)) (v : PDen (refSorted0_c refSorted).ps) : semF tbl (gam (refSorted0_g refSorted)) refSorted0_h fuN 76 (bodyOf Tryz.f46) [] (refSorted0_c refSorted).ps (refSorted0_c refSorted).rs [2] [] v = (refSorted0_c refSorted).g v := by kernel_rfl
def refSortedN : Nat → tC → Option (Unit × tC × Unit)
  | 0 => fun _ => none
  | k + 1 => refSorted0 (refSortedN k)
def refSorted (l : tC) : Option (Unit × tC × Unit) := refSortedN (l.length + 1) l
def refSorted_c : Ctr := refSorted_cR refSorted
def refNorm_s10 (a3 : tC) (a4 : tC) (a5 : Int) (a6 : (Int × Int)) : Option ((tC × tC × Int × (Int × Int) × Unit) ⊕ (tC × tC × Int × (Int × Int) × Unit)) :=
 ((show Option ((tC × tC × Int × (Int × Int) × Unit) ⊕ (tC × tC × Int × (Int × Int) × Unit)) from
 bif (decide (a5 < (a3.length : Int))) then
 ((lk a3 a5).bind fun x12 =>
 bif (decide (x12.1 ≤ (IntKind.i32.wrap (a6.2 + 1)))) then
 some (.inl (a3, a4, a5, a6, ()))
 else
 some (.inr (a3, a4, a5, a6, ())))
 else
 some (.inr (a3, a4, a5, a6, ()))).bind fun y13 =>
 (match y13 with
 | .inl y13 =>
 ((show Option (tC × tC × Int × (Int × Int) × Unit) from
 ((lk y13.1 y13.2.2.1).bind fun x15 =>
 bif (decide (x15.2 > y13.2.2.2.1.2)) then
 ((lk y13.1 y13.2.2.1).bind fun x16 =>
 some (y13.1, y13.2.1, y13.2.2.1, (y13.2.2.2.1.1, x16.2), ()))
 else
 some (y13.1, y13.2.1, y13.2.2.1, y13.2.2.2.1, ()))).bind fun y17 =>
 some (.inl (y17.1, y17.2.1, (IntKind.i64.wrap (y17.2.2.1 + 1)), y17.2.2.2.1, ())))
 | .inr y13 =>
 some (.inr (y13.1, y13.2.1, y13.2.2.1, y13.2.2.2.1, ()))))
def refNorm_s4 (a3 : tC) (a4 : tC) (a5 : Int) : Option ((tC × tC × Int × Unit) ⊕ (tC × Unit)) :=
 ((show Option ((tC × tC × Int × Unit) ⊕ (tC × Unit)) from
 bif (decide (a5 < (a3.length : Int))) then
 some (.inl (a3, a4, a5, ()))
 else
 some (.inr (a4, ()))).bind fun y6 =>
 (match y6 with
 | .inl y6 =>
 ((lk y6.1 y6.2.2.1).bind fun x7 =>
 ((show Option (tC × tC × Int × (Int × Int) × Unit) from
 ((iterN (fun x => refNorm_s10 x.1 x.2.1 x.2.2.1 x.2.2.2.1) fuN (y6.1, y6.2.1, (IntKind.i64.wrap (y6.2.2.1 + 1)), x7, ())).bind fun y18 =>
 some (y18.1, y18.2.1, y18.2.2.1, y18.2.2.2.1, ()))).bind fun y19 =>
 bif (roomOk (y19.2.1.length + [y19.2.2.2.1].length) 8) then
 some (.inl (y19.1, (y19.2.1 ++ [y19.2.2.2.1]), y19.2.2.1, ()))
 else none))
 | .inr y6 =>
 some (.inr (y6.1, ()))))
def refNorm (p0 : tC) : Option (Unit × tC × Unit) :=
 ((refClipped p0).bind fun r1 =>
 ((refSorted r1.2.1).bind fun r2 =>
 ((iterN (fun x => refNorm_s4 x.1 x.2.1 x.2.2.1) fuN (r2.2.1, ([] : tC), (0 : Int), ())).bind fun y20 =>
 some ((), y20.1, ()))))
def refNorm_c : Ctr := ⟨[.ro s0], [.own (.vec y0)], fun v => refNorm v.1⟩
def refNorm_h : zH := fun i => if i = 4 then zL [(3, s0), (4, .vec y0), (5, yi64)] [zX 0 [(4, .vec y0)]] else if i = 1070011 then zC [zN [(3, s0), (4, .vec y0), (5, yi64), (6, .bx y0)]] else if i = 7 then zL [(3, s0), (4, .vec y0), (5, yi64), (6, .bx y0)] [zX 2 [(3, s0), (4, .vec y0), (5, yi64), (6, .bx y0)]] else if i = 1080010 then zC [zN [(3, s0), (4, .vec y0), (5, yi64), (6, .bx y0)]] else if i = 1070008 then zC [zN [(3, s0), (4, .vec y0), (5, yi64), (6, .bx y0)], zX 2 [(3, s0), (4, .vec y0), (5, yi64), (6, .bx y0)]] else if i = 1040005 then zC [zN [(3, s0), (4, .vec y0), (5, yi64)], zX 0 [(4, .vec y0)]] else none
def refNorm_g : zG := [(46, refSorted_c), (47, refClipped_c)]
theorem refNorm_eq : EqB refNorm_c refNorm_g refNorm_h 56 Tryz.f25 [2] [] := fun v => by kernel_rfl
def rNorm_s3 (a3 : tC) (a10 : tC) (a11 : Int) (a12 : Int) : Option ((tC × tC × Int × Int × Unit) ⊕ (tC × Unit)) :=
 bif (decide (a12 < a11)) then
 ((lk a10 a12).bind fun x4 =>
 let v5 := (decide ((if (0 : Int) > x4.1 then (0 : Int) else x4.1) ≤ (if (1114111 : Int) < x4.2 then (1114111 : Int) else x4.2)))
 bif v5 then
 bif (roomOk (a3.length + [((if (0 : Int) > x4.1 then (0 : Int) else x4.1), (if (1114111 : Int) < x4.2 then (1114111 : Int) else x4.2))].length) 8) then
 let l6 := (a3 ++ [((if (0 : Int) > x4.1 then (0 : Int) else x4.1), (if (1114111 : Int) < x4.2 then (1114111 : Int) else x4.2))])
 some (.inl (l6, a10, a11, (IntKind.i64.wrap (a12 + 1)), ()))
 else none
 else
 some (.inl (a3, a10, a11, (IntKind.i64.wrap (a12 + 1)), ())))
 else
 some (.inr (a3, ()))
def rNorm_s11 (a6 : tC) (a36 : tC) (a37 : Int) (a38 : Int) : Option ((tC × tC × Int × Int × Unit) ⊕ (tC × Unit)) :=
 bif (decide (a38 < a37)) then
 ((lk a36 a38).bind fun _x12 =>
 ((lk a36 a38).bind fun x13 =>
 ((show Option (tC × (Int × Int) × Int × tC × Int × Int × Bool × Unit) from
 bif (decide ((a6.length : Int) > 0)) then
 ((lk a6 (IntKind.i64.wrap ((a6.length : Int) - 1))).bind fun _x15 =>
 ((lk a6 (IntKind.i64.wrap ((a6.length : Int) - 1))).bind fun x16 =>
 some (a6, x13, (a6.length : Int), a36, a37, a38, (decide (x13.1 ≤ (IntKind.i32.wrap (x16.2 + 1)))), ())))
 else
 some (a6, x13, (a6.length : Int), a36, a37, a38, false, ())).bind fun y17 =>
 bif y17.2.2.2.2.2.2.1 then
 ((lk y17.1 (IntKind.i64.wrap (y17.2.2.1 - 1))).bind fun _x18 =>
 ((lk y17.1 (IntKind.i64.wrap (y17.2.2.1 - 1))).bind fun x19 =>
 ((lk y17.1 (IntKind.i64.wrap (y17.2.2.1 - 1))).bind fun _x20 =>
 ((lk y17.1 (IntKind.i64.wrap (y17.2.2.1 - 1))).bind fun x21 =>
 let l22 := (y17.1.set (IntKind.i64.wrap (y17.2.2.1 - 1)).toNat (x21.1, (if y17.2.1.2 > x19.2 then y17.2.1.2 else x19.2)))
 some (.inl (l22, y17.2.2.2.1, y17.2.2.2.2.1, (IntKind.i64.wrap (y17.2.2.2.2.2.1 + 1)), ()))))))
 else
 bif (roomOk (y17.1.length + [y17.2.1].length) 8) then
 some (.inl ((y17.1 ++ [y17.2.1]), y17.2.2.2.1, y17.2.2.2.2.1, (IntKind.i64.wrap (y17.2.2.2.2.2.1 + 1)), ()))
 else none)))
 else
 some (.inr (a6, ()))
def rNorm (p0 : tC) : Option (Unit × tC × Unit) :=
 ((show Option (tC × Unit) from
 ((iterN (fun x => rNorm_s3 x.1 x.2.1 x.2.2.1 x.2.2.2.1) fuN (([] : tC), p0, (p0.length : Int), (0 : Int), ())).bind fun y7 =>
 some (y7.1, ()))).bind fun y8 =>
 ((sortF y8.1).bind fun r9 =>
 ((iterN (fun x => rNorm_s11 x.1 x.2.1 x.2.2.1 x.2.2.2.1) fuN (([] : tC), r9.1, (r9.1.length : Int), (0 : Int), ())).bind fun y23 =>
 some ((), y23.1, ()))))
def rNorm_c : Ctr := ⟨[.ro s0], [.own (.vec y0)], fun v => rNorm v.1⟩
def rNorm_h : zH := fun i => if i = 12 then zL [(6, .vec y0), (36, .vec y0), (37, yi64), (38, yi64)] [zX 2 [(6, .vec y0)]] else if i = 1150016 then zC [zN [(6, .vec y0), (8, .bx y0), (9, yi64), (36, .vec y0), (37, yi64), (38, yi64), (57, .bool)]] else if i = 1020009 then zC [zN [(3, .vec y0)]] else if i = 3 then zL [(3, .vec y0), (10, s0), (11, yi64), (12, yi64)] [zX 0 [(3, .vec y0)]] else none
def rNorm_g : zG := [(51, sortF_c)]
theorem rNorm_eq : EqB rNorm_c rNorm_g rNorm_h 78 Tryz.f31 [2] [] := fun v => by kernel_rfl
def slEqual_s4 (a0 : tC) (a1 : tC) (a12 : Int) (a13 : Int) : Option ((tC × tC × Int × Int × Unit) ⊕ ((Bool × Unit) ⊕ Unit)) :=
 bif (decide (a13 < a12)) then
 ((lk a0 a13).bind fun x5 =>
 ((lk a1 a13).bind fun x6 =>
 bif (!((decide (x5.1 = x6.1) && decide (x5.2 = x6.2)))) then
 some (.inr (.inl (false, ())))
 else
 some (.inl (a0, a1, a12, (IntKind.i64.wrap (a13 + 1)), ()))))
 else
 some (.inr (.inr ()))
def slEqual (p0 : tC) (p1 : tC) : Option (Unit × Bool × Unit) :=
 ((show Option ((Bool × Unit) ⊕ (tC × tC × Unit)) from
 bif ((p0.length : Int) != (p1.length : Int)) then
 some (.inl (false, ()))
 else
 some (.inr (p0, p1, ()))).bind fun y2 =>
 (match y2 with
 | .inl y2 =>
 some ((), y2.1, ())
 | .inr y2 =>
 ((iterN (fun x => slEqual_s4 x.1 x.2.1 x.2.2.1 x.2.2.2.1) fuN (y2.1, y2.2.1, (y2.1.length : Int), (0 : Int), ())).bind fun y7 =>
 (match y7 with
 | .inl y7 =>
 some ((), y7.1, ())
 | .inr y7 =>
 some ((), true, ())))))
def slEqual_c : Ctr := ⟨[.ro s0, .ro s0], [.val .bool], fun v => slEqual v.1 v.2.1⟩
def slEqual_h : zH := fun i => if i = 4 then zL [(0, s0), (1, s0), (12, yi64), (13, yi64)] [zR [(4, .bool)], zX 0 []] else if i = 1010003 then zC [zR [(4, .bool)], zN [(0, s0), (1, s0)]] else none
theorem slEqual_eq : EqB slEqual_c [] slEqual_h 26 Tryz.f61 [4] [] := fun v => by kernel_rfl
def uF (p0 : Bool) (p1 : Bool) : Option (Unit × Bool × Unit) :=
 bif p0 then
 some ((), true, ())
 else
 some ((), p1, ())
def uF_c : Ctr := ⟨[.ro .bool, .ro .bool], [.val .bool], fun v => uF v.1 v.2.1⟩
theorem uF_eq : EqB uF_c [] h0 9 Tryz.f57 [4] [] := fun v => by kernel_rfl
def mF (p0 : Bool) (p1 : Bool) : Option (Unit × Bool × Unit) :=
 bif p0 then
 some ((), p1, ())
 else
 some ((), false, ())
def mF_c : Ctr := ⟨[.ro .bool, .ro .bool], [.val .bool], fun v => mF v.1 v.2.1⟩
theorem mF_eq : EqB mF_c [] h0 9 Tryz.f59 [4] [] := fun v => by kernel_rfl
def dF (p0 : Bool) (p1 : Bool) : Option (Unit × Bool × Unit) :=
 bif p0 then
 some ((), (!p1), ())
 else
 some ((), false, ())
def dF_c : Ctr := ⟨[.ro .bool, .ro .bool], [.val .bool], fun v => dF v.1 v.2.1⟩
theorem dF_eq : EqB dF_c [] h0 10 Tryz.f60 [4] [] := fun v => by kernel_rfl
def grow (p1 : Int) : Option (Unit × tC × Unit) :=
 ((show Option (Unit × Int × Unit) from
 bif (decide (p1 < 0)) then
 none
 else
 some ((), p1, ())).bind fun y2 =>
 let v3 := (IntKind.i64.wrap (y2.2.1 - (IntKind.i64.wrap ((0 : Int) - 0))))
 bif (decide (v3 > 0)) then
 bif (inB (0 : Int) (0 : Int) 0) then
 bif (decide (0 ≤ v3) && roomOk (Int.toNat v3) 8) then
 bif (inB (0 : Int) (0 : Int) (List.replicate (Int.toNat v3) ((0 : Int), (0 : Int))).length) then
 some ((), ((((List.replicate (Int.toNat v3) ((0 : Int), (0 : Int)))).drop (0 : Int).toNat).take ((0 : Int) - 0).toNat), ())
 else none
 else none
 else none
 else
 some ((), ([] : tC), ()))
def grow_c : Ctr := ⟨[.ro .nils, .ro yi64], [.own (.vec y0)], fun v => grow v.2.1⟩
def grow_h : zH := fun i => if i = 1010003 then zC [zN [(0, .nils), (1, yi64)]] else none
theorem grow_eq : EqB grow_c [] grow_h 27 Tryz.f104 [4] [] := fun v => by kernel_rfl
def concat_s3 (a0 : List tC) (a3 : Int) (a9 : List tC) (a10 : Int) (a11 : Int) : Option ((List tC × Int × List tC × Int × Int × Unit) ⊕ (List tC × Int × Unit)) :=
 bif (decide (a11 < a10)) then
 ((lk a9 a11).bind fun x4 =>
 let v5 := (decide ((IntKind.i64.wrap (a3 + (x4.length : Int))) < 0))
 bif v5 then
 none
 else
 some (.inl (a0, (IntKind.i64.wrap (a3 + (x4.length : Int))), a9, a10, (IntKind.i64.wrap (a11 + 1)), ())))
 else
 some (.inr (a0, a3, ()))
def concat_s10 (a6 : tC) (a25 : List tC) (a26 : Int) (a27 : Int) : Option ((tC × List tC × Int × Int × Unit) ⊕ (tC × Unit)) :=
 bif (decide (a27 < a26)) then
 ((lk a25 a27).bind fun x11 =>
 bif (roomOk (a6.length + x11.length) 8) then
 some (.inl ((a6 ++ x11), a25, a26, (IntKind.i64.wrap (a27 + 1)), ()))
 else none)
 else
 some (.inr (a6, ()))
def concat (p0 : List tC) : Option (Unit × tC × Unit) :=
 ((show Option (List tC × Int × Unit) from
 ((iterN (fun x => concat_s3 x.1 x.2.1 x.2.2.1 x.2.2.2.1 x.2.2.2.2.1) fuN (p0, (0 : Int), p0, (p0.length : Int), (0 : Int), ())).bind fun y6 =>
 some (y6.1, y6.2.1, ()))).bind fun y7 =>
 ((grow y7.2.1).bind fun r8 =>
 ((iterN (fun x => concat_s10 x.1 x.2.1 x.2.2.1 x.2.2.2.1) fuN (r8.2.1, y7.1, (y7.1.length : Int), (0 : Int), ())).bind fun y12 =>
 some ((), y12.1, ()))))
def concat_c : Ctr := ⟨[.ro (.slice s0)], [.own (.vec y0)], fun v => concat v.1⟩
def concat_h : zH := fun i => if i = 11 then zL [(6, .vec y0), (25, .slice s0), (26, yi64), (27, yi64)] [zX 2 [(6, .vec y0)]] else if i = 1020009 then zC [zN [(0, .slice s0), (3, yi64)]] else if i = 3 then zL [(0, .slice s0), (3, yi64), (9, .slice s0), (10, yi64), (11, yi64)] [zX 0 [(0, .slice s0), (3, yi64)]] else none
def concat_g : zG := [(104, grow_c)]
theorem concat_eq : EqB concat_c concat_g concat_h 36 Tryz.f76 [2] [] := fun v => by kernel_rfl
def runU_s6 (a1 : tC) (a2 : tC) (a7 : List Int) (a21 : tC) (a22 : Int) (a23 : Int) : Option ((tC × tC × Unit × List Int × tC × Int × Int × Unit) ⊕ (tC × tC × Unit × List Int × Unit)) :=
 bif (decide (a23 < a22)) then
 ((lk a21 a23).bind fun _x7 =>
 ((lk a21 a23).bind fun x8 =>
 bif (roomOk (a7.length + [x8.1, (IntKind.i32.wrap (x8.2 + 1))].length) 4) then
 some (.inl (a1, a2, (), (a7 ++ [x8.1, (IntKind.i32.wrap (x8.2 + 1))]), a21, a22, (IntKind.i64.wrap (a23 + 1)), ()))
 else none))
 else
 some (.inr (a1, a2, (), a7, ()))
def runU_s20 (a1 : tC) (a2 : tC) (a7 : List Int) (a10 : tC) (a11 : Int) (a12 : Int) (a44 : (Nat × Nat)) (a45 : Int) (a46 : Int) : Option ((tC × tC × Unit × List Int × tC × Int × Int × (Nat × Nat) × Int × Int × Unit) ⊕ (tC × tC × Unit × List Int × tC × Int × Int × (Nat × Nat) × Int × Int × Unit)) :=
 ((show Option ((tC × tC × Unit × List Int × tC × Int × Int × (Nat × Nat) × Int × Int × Unit) ⊕ (tC × tC × Unit × List Int × tC × Int × Int × (Nat × Nat) × Int × Int × Unit)) from
 bif (decide ((a1.length : Int) > 0)) then
 ((lk a1 (0 : Int)).bind fun x22 =>
 bif (decide (x22.2 < a12)) then
 some (.inl (a1, a2, (), a7, a10, a11, a12, a44, a45, a46, ()))
 else
 some (.inr (a1, a2, (), a7, a10, a11, a12, a44, a45, a46, ())))
 else
 some (.inr (a1, a2, (), a7, a10, a11, a12, a44, a45, a46, ()))).bind fun y23 =>
 (match y23 with
 | .inl y23 =>
 bif (inB (1 : Int) (y23.1.length : Int) y23.1.length) then
 some (.inl ((cut y23.1 (1 : Int) (y23.1.length : Int)), y23.2.1, (), y23.2.2.2.1, y23.2.2.2.2.1, y23.2.2.2.2.2.1, y23.2.2.2.2.2.2.1, y23.2.2.2.2.2.2.2.1, y23.2.2.2.2.2.2.2.2.1, y23.2.2.2.2.2.2.2.2.2.1, ()))
 else none
 | .inr y23 =>
 some (.inr (y23.1, y23.2.1, (), y23.2.2.2.1, y23.2.2.2.2.1, y23.2.2.2.2.2.1, y23.2.2.2.2.2.2.1, y23.2.2.2.2.2.2.2.1, y23.2.2.2.2.2.2.2.2.1, y23.2.2.2.2.2.2.2.2.2.1, ()))))
def runU_s28 (a1 : tC) (a2 : tC) (a7 : List Int) (a10 : tC) (a11 : Int) (a12 : Int) (a44 : (Nat × Nat)) (a45 : Int) (a46 : Int) : Option ((tC × tC × Unit × List Int × tC × Int × Int × (Nat × Nat) × Int × Int × Unit) ⊕ (tC × tC × Unit × List Int × tC × Int × Int × (Nat × Nat) × Int × Int × Unit)) :=
 ((show Option ((tC × tC × Unit × List Int × tC × Int × Int × (Nat × Nat) × Int × Int × Unit) ⊕ (tC × tC × Unit × List Int × tC × Int × Int × (Nat × Nat) × Int × Int × Unit)) from
 bif (decide ((a2.length : Int) > 0)) then
 ((lk a2 (0 : Int)).bind fun x30 =>
 bif (decide (x30.2 < a12)) then
 some (.inl (a1, a2, (), a7, a10, a11, a12, a44, a45, a46, ()))
 else
 some (.inr (a1, a2, (), a7, a10, a11, a12, a44, a45, a46, ())))
 else
 some (.inr (a1, a2, (), a7, a10, a11, a12, a44, a45, a46, ()))).bind fun y31 =>
 (match y31 with
 | .inl y31 =>
 bif (inB (1 : Int) (y31.2.1.length : Int) y31.2.1.length) then
 some (.inl (y31.1, (cut y31.2.1 (1 : Int) (y31.2.1.length : Int)), (), y31.2.2.2.1, y31.2.2.2.2.1, y31.2.2.2.2.2.1, y31.2.2.2.2.2.2.1, y31.2.2.2.2.2.2.2.1, y31.2.2.2.2.2.2.2.2.1, y31.2.2.2.2.2.2.2.2.2.1, ()))
 else none
 | .inr y31 =>
 some (.inr (y31.1, y31.2.1, (), y31.2.2.2.1, y31.2.2.2.2.1, y31.2.2.2.2.2.1, y31.2.2.2.2.2.2.1, y31.2.2.2.2.2.2.2.1, y31.2.2.2.2.2.2.2.2.1, y31.2.2.2.2.2.2.2.2.2.1, ()))))
def runU_s16 (a1 : tC) (a2 : tC) (a7 : List Int) (a10 : tC) (a44 : (Nat × Nat)) (a45 : Int) (a46 : Int) : Option ((tC × tC × Unit × List Int × tC × (Nat × Nat) × Int × Int × Unit) ⊕ (tC × Unit)) :=
 bif (decide (a46 < a45)) then
 bif (inR a46 a44.2) then
 ((lk a7 (plusI a44.1 a46)).bind fun x17 =>
 ((show Option (tC × tC × Unit × List Int × tC × Int × Int × (Nat × Nat) × Int × Int × Unit) from
 ((iterN (fun x => runU_s20 x.1 x.2.1 x.2.2.2.1 x.2.2.2.2.1 x.2.2.2.2.2.1 x.2.2.2.2.2.2.1 x.2.2.2.2.2.2.2.1 x.2.2.2.2.2.2.2.2.1 x.2.2.2.2.2.2.2.2.2.1) fuN (a1, a2, (), a7, a10, a46, x17, a44, a45, a46, ())).bind fun y24 =>
 some (y24.1, y24.2.1, (), y24.2.2.2.1, y24.2.2.2.2.1, y24.2.2.2.2.2.1, y24.2.2.2.2.2.2.1, y24.2.2.2.2.2.2.2.1, y24.2.2.2.2.2.2.2.2.1, y24.2.2.2.2.2.2.2.2.2.1, ()))).bind fun y25 =>
 ((show Option (tC × tC × Unit × List Int × tC × Int × Int × (Nat × Nat) × Int × Int × Unit) from
 ((iterN (fun x => runU_s28 x.1 x.2.1 x.2.2.2.1 x.2.2.2.2.1 x.2.2.2.2.2.1 x.2.2.2.2.2.2.1 x.2.2.2.2.2.2.2.1 x.2.2.2.2.2.2.2.2.1 x.2.2.2.2.2.2.2.2.2.1) fuN (y25.1, y25.2.1, (), y25.2.2.2.1, y25.2.2.2.2.1, y25.2.2.2.2.2.1, y25.2.2.2.2.2.2.1, y25.2.2.2.2.2.2.2.1, y25.2.2.2.2.2.2.2.2.1, y25.2.2.2.2.2.2.2.2.2.1, ())).bind fun y32 =>
 some (y32.1, y32.2.1, (), y32.2.2.2.1, y32.2.2.2.2.1, y32.2.2.2.2.2.1, y32.2.2.2.2.2.2.1, y32.2.2.2.2.2.2.2.1, y32.2.2.2.2.2.2.2.2.1, y32.2.2.2.2.2.2.2.2.2.1, ()))).bind fun y33 =>
 ((show Option (tC × tC × Unit × List Int × tC × Int × Int × (Nat × Nat) × Int × Int × Bool × Unit) from
 bif (decide ((y33.1.length : Int) > 0)) then
 ((lk y33.1 (0 : Int)).bind fun x35 =>
 bif (decide ((y33.2.1.length : Int) > 0)) then
 ((lk y33.2.1 (0 : Int)).bind fun x36 =>
 ((uF (decide (x35.1 ≤ y33.2.2.2.2.2.2.1)) (decide (x36.1 ≤ y33.2.2.2.2.2.2.1))).bind fun r37 =>
 some (y33.1, y33.2.1, (), y33.2.2.2.1, y33.2.2.2.2.1, y33.2.2.2.2.2.1, y33.2.2.2.2.2.2.1, y33.2.2.2.2.2.2.2.1, y33.2.2.2.2.2.2.2.2.1, y33.2.2.2.2.2.2.2.2.2.1, r37.2.1, ())))
 else
 ((uF (decide (x35.1 ≤ y33.2.2.2.2.2.2.1)) false).bind fun r38 =>
 some (y33.1, y33.2.1, (), y33.2.2.2.1, y33.2.2.2.2.1, y33.2.2.2.2.2.1, y33.2.2.2.2.2.2.1, y33.2.2.2.2.2.2.2.1, y33.2.2.2.2.2.2.2.2.1, y33.2.2.2.2.2.2.2.2.2.1, r38.2.1, ())))
 else
 bif (decide ((y33.2.1.length : Int) > 0)) then
 ((lk y33.2.1 (0 : Int)).bind fun x39 =>
 ((uF false (decide (x39.1 ≤ y33.2.2.2.2.2.2.1))).bind fun r40 =>
 some (y33.1, y33.2.1, (), y33.2.2.2.1, y33.2.2.2.2.1, y33.2.2.2.2.2.1, y33.2.2.2.2.2.2.1, y33.2.2.2.2.2.2.2.1, y33.2.2.2.2.2.2.2.2.1, y33.2.2.2.2.2.2.2.2.2.1, r40.2.1, ())))
 else
 ((uF false false).bind fun r41 =>
 some (y33.1, y33.2.1, (), y33.2.2.2.1, y33.2.2.2.2.1, y33.2.2.2.2.2.1, y33.2.2.2.2.2.2.1, y33.2.2.2.2.2.2.2.1, y33.2.2.2.2.2.2.2.2.1, y33.2.2.2.2.2.2.2.2.2.1, r41.2.1, ()))).bind fun y42 =>
 bif y42.2.2.2.2.2.2.2.2.2.2.1 then
 ((lk y42.2.2.2.1 (IntKind.i64.wrap (y42.2.2.2.2.2.1 + 1))).bind fun _x43 =>
 ((lk y42.2.2.2.1 (IntKind.i64.wrap (y42.2.2.2.2.2.1 + 1))).bind fun x44 =>
 bif (roomOk (y42.2.2.2.2.1.length + [(y42.2.2.2.2.2.2.1, (IntKind.i32.wrap (x44 - 1)))].length) 8) then
 let l45 := (y42.2.2.2.2.1 ++ [(y42.2.2.2.2.2.2.1, (IntKind.i32.wrap (x44 - 1)))])
 some (.inl (y42.1, y42.2.1, (), y42.2.2.2.1, l45, y42.2.2.2.2.2.2.2.1, y42.2.2.2.2.2.2.2.2.1, (IntKind.i64.wrap (y42.2.2.2.2.2.2.2.2.2.1 + 1)), ()))
 else none))
 else
 some (.inl (y42.1, y42.2.1, (), y42.2.2.2.1, y42.2.2.2.2.1, y42.2.2.2.2.2.2.2.1, y42.2.2.2.2.2.2.2.2.1, (IntKind.i64.wrap (y42.2.2.2.2.2.2.2.2.2.1 + 1)), ()))))))
 else none
 else
 some (.inr (a10, ()))
def runU (p1 : tC) (p2 : tC) : Option (Unit × tC × Unit) :=
 ((rNorm p1).bind fun r1 =>
 ((rNorm p2).bind fun r2 =>
 ((show Option (tC × tC × Unit × List Int × Unit) from
 ((concat [r1.2.1, r2.2.1]).bind fun r4 =>
 ((iterN (fun x => runU_s6 x.1 x.2.1 x.2.2.2.1 x.2.2.2.2.1 x.2.2.2.2.2.1 x.2.2.2.2.2.2.1) fuN (r1.2.1, r2.2.1, (), [(0 : Int), (1114112 : Int)], r4.2.1, (r4.2.1.length : Int), (0 : Int), ())).bind fun y9 =>
 some (y9.1, y9.2.1, (), y9.2.2.2.1, ())))).bind fun y10 =>
 ((sortI y10.2.2.2.1).bind fun r11 =>
 ((compactI r11.1).bind fun r12 =>
 ((show Option (tC × Unit) from
 bif (inB (0 : Int) (IntKind.i64.wrap ((r12.2.1.length : Int) - 1)) r12.2.1.length) then
 let v14 := ((IntKind.i64.wrap ((r12.2.1.length : Int) - 1)) - 0).toNat
 ((iterN (fun x => runU_s16 x.1 x.2.1 x.2.2.2.1 x.2.2.2.2.1 x.2.2.2.2.2.1 x.2.2.2.2.2.2.1 x.2.2.2.2.2.2.2.1) fuN (y10.1, y10.2.1, (), r12.2.1, ([] : tC), ((0 : Int).toNat, v14), (v14 : Int), (0 : Int), ())).bind fun y46 =>
 some (y46.1, ()))
 else none).bind fun y47 =>
 ((rNorm y47.1).bind fun r48 =>
 some ((), r48.2.1, ()))))))))
def runU_c : Ctr := ⟨[.ro (.st (.clo 57 .unit)), .ro s0, .ro s0], [.own (.vec y0)], fun v => runU v.2.1 v.2.2.1⟩
def runU_h : zH := fun i => if i = 1110021 then zC [zN [(10, .vec y0)]] else if i = 12 then zL [(1, s0), (2, s0), (3, .bx (.st (.clo 57 .unit))), (7, .vec yi32), (10, .vec y0), (44, (.osl 1)), (45, yi64), (46, yi64)] [zX 2 [(10, .vec y0)]] else if i = 1180019 then zC [zN [(1, s0), (2, s0), (3, .bx (.st (.clo 57 .unit))), (7, .vec yi32), (10, .vec y0), (11, yi64), (12, yi32), (44, (.osl 1)), (45, yi64), (46, yi64), (101, .bool)]] else if i = 1160018 then zC [zN [(1, s0), (2, s0), (3, .bx (.st (.clo 57 .unit))), (7, .vec yi32), (10, .vec y0), (11, yi64), (12, yi32), (44, (.osl 1)), (45, yi64), (46, yi64)]] else if i = 16 then zL [(1, s0), (2, s0), (3, .bx (.st (.clo 57 .unit))), (7, .vec yi32), (10, .vec y0), (11, yi64), (12, yi32), (44, (.osl 1)), (45, yi64), (46, yi64)] [zX 6 [(1, s0), (2, s0), (3, .bx (.st (.clo 57 .unit))), (7, .vec yi32), (10, .vec y0), (11, yi64), (12, yi32), (44, (.osl 1)), (45, yi64), (46, yi64)]] else if i = 1160017 then zC [zN [(1, s0), (2, s0), (3, .bx (.st (.clo 57 .unit))), (7, .vec yi32), (10, .vec y0), (11, yi64), (12, yi32), (44, (.osl 1)), (45, yi64), (46, yi64)], zX 6 [(1, s0), (2, s0), (3, .bx (.st (.clo 57 .unit))), (7, .vec yi32), (10, .vec y0), (11, yi64), (12, yi32), (44, (.osl 1)), (45, yi64), (46, yi64)]] else if i = 1140016 then zC [zN [(1, s0), (2, s0), (3, .bx (.st (.clo 57 .unit))), (7, .vec yi32), (10, .vec y0), (11, yi64), (12, yi32), (44, (.osl 1)), (45, yi64), (46, yi64)]] else if i = 14 then zL [(1, s0), (2, s0), (3, .bx (.st (.clo 57 .unit))), (7, .vec yi32), (10, .vec y0), (11, yi64), (12, yi32), (44, (.osl 1)), (45, yi64), (46, yi64)] [zX 4 [(1, s0), (2, s0), (3, .bx (.st (.clo 57 .unit))), (7, .vec yi32), (10, .vec y0), (11, yi64), (12, yi32), (44, (.osl 1)), (45, yi64), (46, yi64)]] else if i = 1140015 then zC [zN [(1, s0), (2, s0), (3, .bx (.st (.clo 57 .unit))), (7, .vec yi32), (10, .vec y0), (11, yi64), (12, yi32), (44, (.osl 1)), (45, yi64), (46, yi64)], zX 4 [(1, s0), (2, s0), (3, .bx (.st (.clo 57 .unit))), (7, .vec yi32), (10, .vec y0), (11, yi64), (12, yi32), (44, (.osl 1)), (45, yi64), (46, yi64)]] else if i = 1030008 then zC [zN [(1, s0), (2, s0), (3, .bx (.st (.clo 57 .unit))), (7, .vec yi32)]] else if i = 4 then zL [(1, s0), (2, s0), (3, .bx (.st (.clo 57 .unit))), (7, .vec yi32), (21, .vec y0), (22, yi64), (23, yi64)] [zX 0 [(1, s0), (2, s0), (3, .bx (.st (.clo 57 .unit))), (7, .vec yi32)]] else none
def runU_g : zG := [(77, sortI_c), (78, compactI_c), (31, rNorm_c), (57, uF_c), (76, concat_c)]
theorem runU_eq : EqB runU_c runU_g runU_h 116 Tryz.f58 [6] [] := fun v => by kernel_rfl
def runM_s6 (a1 : tC) (a2 : tC) (a7 : List Int) (a21 : tC) (a22 : Int) (a23 : Int) : Option ((tC × tC × Unit × List Int × tC × Int × Int × Unit) ⊕ (tC × tC × Unit × List Int × Unit)) :=
 bif (decide (a23 < a22)) then
 ((lk a21 a23).bind fun _x7 =>
 ((lk a21 a23).bind fun x8 =>
 bif (roomOk (a7.length + [x8.1, (IntKind.i32.wrap (x8.2 + 1))].length) 4) then
 some (.inl (a1, a2, (), (a7 ++ [x8.1, (IntKind.i32.wrap (x8.2 + 1))]), a21, a22, (IntKind.i64.wrap (a23 + 1)), ()))
 else none))
 else
 some (.inr (a1, a2, (), a7, ()))
def runM_s20 (a1 : tC) (a2 : tC) (a7 : List Int) (a10 : tC) (a11 : Int) (a12 : Int) (a44 : (Nat × Nat)) (a45 : Int) (a46 : Int) : Option ((tC × tC × Unit × List Int × tC × Int × Int × (Nat × Nat) × Int × Int × Unit) ⊕ (tC × tC × Unit × List Int × tC × Int × Int × (Nat × Nat) × Int × Int × Unit)) :=
 ((show Option ((tC × tC × Unit × List Int × tC × Int × Int × (Nat × Nat) × Int × Int × Unit) ⊕ (tC × tC × Unit × List Int × tC × Int × Int × (Nat × Nat) × Int × Int × Unit)) from
 bif (decide ((a1.length : Int) > 0)) then
 ((lk a1 (0 : Int)).bind fun x22 =>
 bif (decide (x22.2 < a12)) then
 some (.inl (a1, a2, (), a7, a10, a11, a12, a44, a45, a46, ()))
 else
 some (.inr (a1, a2, (), a7, a10, a11, a12, a44, a45, a46, ())))
 else
 some (.inr (a1, a2, (), a7, a10, a11, a12, a44, a45, a46, ()))).bind fun y23 =>
 (match y23 with
 | .inl y23 =>
 bif (inB (1 : Int) (y23.1.length : Int) y23.1.length) then
 some (.inl ((cut y23.1 (1 : Int) (y23.1.length : Int)), y23.2.1, (), y23.2.2.2.1, y23.2.2.2.2.1, y23.2.2.2.2.2.1, y23.2.2.2.2.2.2.1, y23.2.2.2.2.2.2.2.1, y23.2.2.2.2.2.2.2.2.1, y23.2.2.2.2.2.2.2.2.2.1, ()))
 else none
 | .inr y23 =>
 some (.inr (y23.1, y23.2.1, (), y23.2.2.2.1, y23.2.2.2.2.1, y23.2.2.2.2.2.1, y23.2.2.2.2.2.2.1, y23.2.2.2.2.2.2.2.1, y23.2.2.2.2.2.2.2.2.1, y23.2.2.2.2.2.2.2.2.2.1, ()))))
def runM_s28 (a1 : tC) (a2 : tC) (a7 : List Int) (a10 : tC) (a11 : Int) (a12 : Int) (a44 : (Nat × Nat)) (a45 : Int) (a46 : Int) : Option ((tC × tC × Unit × List Int × tC × Int × Int × (Nat × Nat) × Int × Int × Unit) ⊕ (tC × tC × Unit × List Int × tC × Int × Int × (Nat × Nat) × Int × Int × Unit)) :=
 ((show Option ((tC × tC × Unit × List Int × tC × Int × Int × (Nat × Nat) × Int × Int × Unit) ⊕ (tC × tC × Unit × List Int × tC × Int × Int × (Nat × Nat) × Int × Int × Unit)) from
 bif (decide ((a2.length : Int) > 0)) then
 ((lk a2 (0 : Int)).bind fun x30 =>
 bif (decide (x30.2 < a12)) then
 some (.inl (a1, a2, (), a7, a10, a11, a12, a44, a45, a46, ()))
 else
 some (.inr (a1, a2, (), a7, a10, a11, a12, a44, a45, a46, ())))
 else
 some (.inr (a1, a2, (), a7, a10, a11, a12, a44, a45, a46, ()))).bind fun y31 =>
 (match y31 with
 | .inl y31 =>
 bif (inB (1 : Int) (y31.2.1.length : Int) y31.2.1.length) then
 some (.inl (y31.1, (cut y31.2.1 (1 : Int) (y31.2.1.length : Int)), (), y31.2.2.2.1, y31.2.2.2.2.1, y31.2.2.2.2.2.1, y31.2.2.2.2.2.2.1, y31.2.2.2.2.2.2.2.1, y31.2.2.2.2.2.2.2.2.1, y31.2.2.2.2.2.2.2.2.2.1, ()))
 else none
 | .inr y31 =>
 some (.inr (y31.1, y31.2.1, (), y31.2.2.2.1, y31.2.2.2.2.1, y31.2.2.2.2.2.1, y31.2.2.2.2.2.2.1, y31.2.2.2.2.2.2.2.1, y31.2.2.2.2.2.2.2.2.1, y31.2.2.2.2.2.2.2.2.2.1, ()))))
def runM_s16 (a1 : tC) (a2 : tC) (a7 : List Int) (a10 : tC) (a44 : (Nat × Nat)) (a45 : Int) (a46 : Int) : Option ((tC × tC × Unit × List Int × tC × (Nat × Nat) × Int × Int × Unit) ⊕ (tC × Unit)) :=
 bif (decide (a46 < a45)) then
 bif (inR a46 a44.2) then
 ((lk a7 (plusI a44.1 a46)).bind fun x17 =>
 ((show Option (tC × tC × Unit × List Int × tC × Int × Int × (Nat × Nat) × Int × Int × Unit) from
 ((iterN (fun x => runM_s20 x.1 x.2.1 x.2.2.2.1 x.2.2.2.2.1 x.2.2.2.2.2.1 x.2.2.2.2.2.2.1 x.2.2.2.2.2.2.2.1 x.2.2.2.2.2.2.2.2.1 x.2.2.2.2.2.2.2.2.2.1) fuN (a1, a2, (), a7, a10, a46, x17, a44, a45, a46, ())).bind fun y24 =>
 some (y24.1, y24.2.1, (), y24.2.2.2.1, y24.2.2.2.2.1, y24.2.2.2.2.2.1, y24.2.2.2.2.2.2.1, y24.2.2.2.2.2.2.2.1, y24.2.2.2.2.2.2.2.2.1, y24.2.2.2.2.2.2.2.2.2.1, ()))).bind fun y25 =>
 ((show Option (tC × tC × Unit × List Int × tC × Int × Int × (Nat × Nat) × Int × Int × Unit) from
 ((iterN (fun x => runM_s28 x.1 x.2.1 x.2.2.2.1 x.2.2.2.2.1 x.2.2.2.2.2.1 x.2.2.2.2.2.2.1 x.2.2.2.2.2.2.2.1 x.2.2.2.2.2.2.2.2.1 x.2.2.2.2.2.2.2.2.2.1) fuN (y25.1, y25.2.1, (), y25.2.2.2.1, y25.2.2.2.2.1, y25.2.2.2.2.2.1, y25.2.2.2.2.2.2.1, y25.2.2.2.2.2.2.2.1, y25.2.2.2.2.2.2.2.2.1, y25.2.2.2.2.2.2.2.2.2.1, ())).bind fun y32 =>
 some (y32.1, y32.2.1, (), y32.2.2.2.1, y32.2.2.2.2.1, y32.2.2.2.2.2.1, y32.2.2.2.2.2.2.1, y32.2.2.2.2.2.2.2.1, y32.2.2.2.2.2.2.2.2.1, y32.2.2.2.2.2.2.2.2.2.1, ()))).bind fun y33 =>
 ((show Option (tC × tC × Unit × List Int × tC × Int × Int × (Nat × Nat) × Int × Int × Bool × Unit) from
 bif (decide ((y33.1.length : Int) > 0)) then
 ((lk y33.1 (0 : Int)).bind fun x35 =>
 bif (decide ((y33.2.1.length : Int) > 0)) then
 ((lk y33.2.1 (0 : Int)).bind fun x36 =>
 ((mF (decide (x35.1 ≤ y33.2.2.2.2.2.2.1)) (decide (x36.1 ≤ y33.2.2.2.2.2.2.1))).bind fun r37 =>
 some (y33.1, y33.2.1, (), y33.2.2.2.1, y33.2.2.2.2.1, y33.2.2.2.2.2.1, y33.2.2.2.2.2.2.1, y33.2.2.2.2.2.2.2.1, y33.2.2.2.2.2.2.2.2.1, y33.2.2.2.2.2.2.2.2.2.1, r37.2.1, ())))
 else
 ((mF (decide (x35.1 ≤ y33.2.2.2.2.2.2.1)) false).bind fun r38 =>
 some (y33.1, y33.2.1, (), y33.2.2.2.1, y33.2.2.2.2.1, y33.2.2.2.2.2.1, y33.2.2.2.2.2.2.1, y33.2.2.2.2.2.2.2.1, y33.2.2.2.2.2.2.2.2.1, y33.2.2.2.2.2.2.2.2.2.1, r38.2.1, ())))
 else
 bif (decide ((y33.2.1.length : Int) > 0)) then
 ((lk y33.2.1 (0 : Int)).bind fun x39 =>
 ((mF false (decide (x39.1 ≤ y33.2.2.2.2.2.2.1))).bind fun r40 =>
 some (y33.1, y33.2.1, (), y33.2.2.2.1, y33.2.2.2.2.1, y33.2.2.2.2.2.1, y33.2.2.2.2.2.2.1, y33.2.2.2.2.2.2.2.1, y33.2.2.2.2.2.2.2.2.1, y33.2.2.2.2.2.2.2.2.2.1, r40.2.1, ())))
 else
 ((mF false false).bind fun r41 =>
 some (y33.1, y33.2.1, (), y33.2.2.2.1, y33.2.2.2.2.1, y33.2.2.2.2.2.1, y33.2.2.2.2.2.2.1, y33.2.2.2.2.2.2.2.1, y33.2.2.2.2.2.2.2.2.1, y33.2.2.2.2.2.2.2.2.2.1, r41.2.1, ()))).bind fun y42 =>
 bif y42.2.2.2.2.2.2.2.2.2.2.1 then
 ((lk y42.2.2.2.1 (IntKind.i64.wrap (y42.2.2.2.2.2.1 + 1))).bind fun _x43 =>
 ((lk y42.2.2.2.1 (IntKind.i64.wrap (y42.2.2.2.2.2.1 + 1))).bind fun x44 =>
 bif (roomOk (y42.2.2.2.2.1.length + [(y42.2.2.2.2.2.2.1, (IntKind.i32.wrap (x44 - 1)))].length) 8) then
 let l45 := (y42.2.2.2.2.1 ++ [(y42.2.2.2.2.2.2.1, (IntKind.i32.wrap (x44 - 1)))])
 some (.inl (y42.1, y42.2.1, (), y42.2.2.2.1, l45, y42.2.2.2.2.2.2.2.1, y42.2.2.2.2.2.2.2.2.1, (IntKind.i64.wrap (y42.2.2.2.2.2.2.2.2.2.1 + 1)), ()))
 else none))
 else
 some (.inl (y42.1, y42.2.1, (), y42.2.2.2.1, y42.2.2.2.2.1, y42.2.2.2.2.2.2.2.1, y42.2.2.2.2.2.2.2.2.1, (IntKind.i64.wrap (y42.2.2.2.2.2.2.2.2.2.1 + 1)), ()))))))
 else none
 else
 some (.inr (a10, ()))
def runM (p1 : tC) (p2 : tC) : Option (Unit × tC × Unit) :=
 ((rNorm p1).bind fun r1 =>
 ((rNorm p2).bind fun r2 =>
 ((show Option (tC × tC × Unit × List Int × Unit) from
 ((concat [r1.2.1, r2.2.1]).bind fun r4 =>
 ((iterN (fun x => runM_s6 x.1 x.2.1 x.2.2.2.1 x.2.2.2.2.1 x.2.2.2.2.2.1 x.2.2.2.2.2.2.1) fuN (r1.2.1, r2.2.1, (), [(0 : Int), (1114112 : Int)], r4.2.1, (r4.2.1.length : Int), (0 : Int), ())).bind fun y9 =>
 some (y9.1, y9.2.1, (), y9.2.2.2.1, ())))).bind fun y10 =>
 ((sortI y10.2.2.2.1).bind fun r11 =>
 ((compactI r11.1).bind fun r12 =>
 ((show Option (tC × Unit) from
 bif (inB (0 : Int) (IntKind.i64.wrap ((r12.2.1.length : Int) - 1)) r12.2.1.length) then
 let v14 := ((IntKind.i64.wrap ((r12.2.1.length : Int) - 1)) - 0).toNat
 ((iterN (fun x => runM_s16 x.1 x.2.1 x.2.2.2.1 x.2.2.2.2.1 x.2.2.2.2.2.1 x.2.2.2.2.2.2.1 x.2.2.2.2.2.2.2.1) fuN (y10.1, y10.2.1, (), r12.2.1, ([] : tC), ((0 : Int).toNat, v14), (v14 : Int), (0 : Int), ())).bind fun y46 =>
 some (y46.1, ()))
 else none).bind fun y47 =>
 ((rNorm y47.1).bind fun r48 =>
 some ((), r48.2.1, ()))))))))
def runM_c : Ctr := ⟨[.ro (.st (.clo 59 .unit)), .ro s0, .ro s0], [.own (.vec y0)], fun v => runM v.2.1 v.2.2.1⟩
def runM_h : zH := fun i => if i = 1110021 then zC [zN [(10, .vec y0)]] else if i = 12 then zL [(1, s0), (2, s0), (3, .bx (.st (.clo 59 .unit))), (7, .vec yi32), (10, .vec y0), (44, (.osl 1)), (45, yi64), (46, yi64)] [zX 2 [(10, .vec y0)]] else if i = 1180019 then zC [zN [(1, s0), (2, s0), (3, .bx (.st (.clo 59 .unit))), (7, .vec yi32), (10, .vec y0), (11, yi64), (12, yi32), (44, (.osl 1)), (45, yi64), (46, yi64), (101, .bool)]] else if i = 1160018 then zC [zN [(1, s0), (2, s0), (3, .bx (.st (.clo 59 .unit))), (7, .vec yi32), (10, .vec y0), (11, yi64), (12, yi32), (44, (.osl 1)), (45, yi64), (46, yi64)]] else if i = 16 then zL [(1, s0), (2, s0), (3, .bx (.st (.clo 59 .unit))), (7, .vec yi32), (10, .vec y0), (11, yi64), (12, yi32), (44, (.osl 1)), (45, yi64), (46, yi64)] [zX 6 [(1, s0), (2, s0), (3, .bx (.st (.clo 59 .unit))), (7, .vec yi32), (10, .vec y0), (11, yi64), (12, yi32), (44, (.osl 1)), (45, yi64), (46, yi64)]] else if i = 1160017 then zC [zN [(1, s0), (2, s0), (3, .bx (.st (.clo 59 .unit))), (7, .vec yi32), (10, .vec y0), (11, yi64), (12, yi32), (44, (.osl 1)), (45, yi64), (46, yi64)], zX 6 [(1, s0), (2, s0), (3, .bx (.st (.clo 59 .unit))), (7, .vec yi32), (10, .vec y0), (11, yi64), (12, yi32), (44, (.osl 1)), (45, yi64), (46, yi64)]] else if i = 1140016 then zC [zN [(1, s0), (2, s0), (3, .bx (.st (.clo 59 .unit))), (7, .vec yi32), (10, .vec y0), (11, yi64), (12, yi32), (44, (.osl 1)), (45, yi64), (46, yi64)]] else if i = 14 then zL [(1, s0), (2, s0), (3, .bx (.st (.clo 59 .unit))), (7, .vec yi32), (10, .vec y0), (11, yi64), (12, yi32), (44, (.osl 1)), (45, yi64), (46, yi64)] [zX 4 [(1, s0), (2, s0), (3, .bx (.st (.clo 59 .unit))), (7, .vec yi32), (10, .vec y0), (11, yi64), (12, yi32), (44, (.osl 1)), (45, yi64), (46, yi64)]] else if i = 1140015 then zC [zN [(1, s0), (2, s0), (3, .bx (.st (.clo 59 .unit))), (7, .vec yi32), (10, .vec y0), (11, yi64), (12, yi32), (44, (.osl 1)), (45, yi64), (46, yi64)], zX 4 [(1, s0), (2, s0), (3, .bx (.st (.clo 59 .unit))), (7, .vec yi32), (10, .vec y0), (11, yi64), (12, yi32), (44, (.osl 1)), (45, yi64), (46, yi64)]] else if i = 1030008 then zC [zN [(1, s0), (2, s0), (3, .bx (.st (.clo 59 .unit))), (7, .vec yi32)]] else if i = 4 then zL [(1, s0), (2, s0), (3, .bx (.st (.clo 59 .unit))), (7, .vec yi32), (21, .vec y0), (22, yi64), (23, yi64)] [zX 0 [(1, s0), (2, s0), (3, .bx (.st (.clo 59 .unit))), (7, .vec yi32)]] else none
def runM_g : zG := [(77, sortI_c), (78, compactI_c), (31, rNorm_c), (59, mF_c), (76, concat_c)]
theorem runM_eq : EqB runM_c runM_g runM_h 116 Tryz.f58 [6] [] := fun v => by kernel_rfl
def runD_s6 (a1 : tC) (a2 : tC) (a7 : List Int) (a21 : tC) (a22 : Int) (a23 : Int) : Option ((tC × tC × Unit × List Int × tC × Int × Int × Unit) ⊕ (tC × tC × Unit × List Int × Unit)) :=
 bif (decide (a23 < a22)) then
 ((lk a21 a23).bind fun _x7 =>
 ((lk a21 a23).bind fun x8 =>
 bif (roomOk (a7.length + [x8.1, (IntKind.i32.wrap (x8.2 + 1))].length) 4) then
 some (.inl (a1, a2, (), (a7 ++ [x8.1, (IntKind.i32.wrap (x8.2 + 1))]), a21, a22, (IntKind.i64.wrap (a23 + 1)), ()))
 else none))
 else
 some (.inr (a1, a2, (), a7, ()))
def runD_s20 (a1 : tC) (a2 : tC) (a7 : List Int) (a10 : tC) (a11 : Int) (a12 : Int) (a44 : (Nat × Nat)) (a45 : Int) (a46 : Int) : Option ((tC × tC × Unit × List Int × tC × Int × Int × (Nat × Nat) × Int × Int × Unit) ⊕ (tC × tC × Unit × List Int × tC × Int × Int × (Nat × Nat) × Int × Int × Unit)) :=
 ((show Option ((tC × tC × Unit × List Int × tC × Int × Int × (Nat × Nat) × Int × Int × Unit) ⊕ (tC × tC × Unit × List Int × tC × Int × Int × (Nat × Nat) × Int × Int × Unit)) from
 bif (decide ((a1.length : Int) > 0)) then
 ((lk a1 (0 : Int)).bind fun x22 =>
 bif (decide (x22.2 < a12)) then
 some (.inl (a1, a2, (), a7, a10, a11, a12, a44, a45, a46, ()))
 else
 some (.inr (a1, a2, (), a7, a10, a11, a12, a44, a45, a46, ())))
 else
 some (.inr (a1, a2, (), a7, a10, a11, a12, a44, a45, a46, ()))).bind fun y23 =>
 (match y23 with
 | .inl y23 =>
 bif (inB (1 : Int) (y23.1.length : Int) y23.1.length) then
 some (.inl ((cut y23.1 (1 : Int) (y23.1.length : Int)), y23.2.1, (), y23.2.2.2.1, y23.2.2.2.2.1, y23.2.2.2.2.2.1, y23.2.2.2.2.2.2.1, y23.2.2.2.2.2.2.2.1, y23.2.2.2.2.2.2.2.2.1, y23.2.2.2.2.2.2.2.2.2.1, ()))
 else none
 | .inr y23 =>
 some (.inr (y23.1, y23.2.1, (), y23.2.2.2.1, y23.2.2.2.2.1, y23.2.2.2.2.2.1, y23.2.2.2.2.2.2.1, y23.2.2.2.2.2.2.2.1, y23.2.2.2.2.2.2.2.2.1, y23.2.2.2.2.2.2.2.2.2.1, ()))))
def runD_s28 (a1 : tC) (a2 : tC) (a7 : List Int) (a10 : tC) (a11 : Int) (a12 : Int) (a44 : (Nat × Nat)) (a45 : Int) (a46 : Int) : Option ((tC × tC × Unit × List Int × tC × Int × Int × (Nat × Nat) × Int × Int × Unit) ⊕ (tC × tC × Unit × List Int × tC × Int × Int × (Nat × Nat) × Int × Int × Unit)) :=
 ((show Option ((tC × tC × Unit × List Int × tC × Int × Int × (Nat × Nat) × Int × Int × Unit) ⊕ (tC × tC × Unit × List Int × tC × Int × Int × (Nat × Nat) × Int × Int × Unit)) from
 bif (decide ((a2.length : Int) > 0)) then
 ((lk a2 (0 : Int)).bind fun x30 =>
 bif (decide (x30.2 < a12)) then
 some (.inl (a1, a2, (), a7, a10, a11, a12, a44, a45, a46, ()))
 else
 some (.inr (a1, a2, (), a7, a10, a11, a12, a44, a45, a46, ())))
 else
 some (.inr (a1, a2, (), a7, a10, a11, a12, a44, a45, a46, ()))).bind fun y31 =>
 (match y31 with
 | .inl y31 =>
 bif (inB (1 : Int) (y31.2.1.length : Int) y31.2.1.length) then
 some (.inl (y31.1, (cut y31.2.1 (1 : Int) (y31.2.1.length : Int)), (), y31.2.2.2.1, y31.2.2.2.2.1, y31.2.2.2.2.2.1, y31.2.2.2.2.2.2.1, y31.2.2.2.2.2.2.2.1, y31.2.2.2.2.2.2.2.2.1, y31.2.2.2.2.2.2.2.2.2.1, ()))
 else none
 | .inr y31 =>
 some (.inr (y31.1, y31.2.1, (), y31.2.2.2.1, y31.2.2.2.2.1, y31.2.2.2.2.2.1, y31.2.2.2.2.2.2.1, y31.2.2.2.2.2.2.2.1, y31.2.2.2.2.2.2.2.2.1, y31.2.2.2.2.2.2.2.2.2.1, ()))))
def runD_s16 (a1 : tC) (a2 : tC) (a7 : List Int) (a10 : tC) (a44 : (Nat × Nat)) (a45 : Int) (a46 : Int) : Option ((tC × tC × Unit × List Int × tC × (Nat × Nat) × Int × Int × Unit) ⊕ (tC × Unit)) :=
 bif (decide (a46 < a45)) then
 bif (inR a46 a44.2) then
 ((lk a7 (plusI a44.1 a46)).bind fun x17 =>
 ((show Option (tC × tC × Unit × List Int × tC × Int × Int × (Nat × Nat) × Int × Int × Unit) from
 ((iterN (fun x => runD_s20 x.1 x.2.1 x.2.2.2.1 x.2.2.2.2.1 x.2.2.2.2.2.1 x.2.2.2.2.2.2.1 x.2.2.2.2.2.2.2.1 x.2.2.2.2.2.2.2.2.1 x.2.2.2.2.2.2.2.2.2.1) fuN (a1, a2, (), a7, a10, a46, x17, a44, a45, a46, ())).bind fun y24 =>
 some (y24.1, y24.2.1, (), y24.2.2.2.1, y24.2.2.2.2.1, y24.2.2.2.2.2.1, y24.2.2.2.2.2.2.1, y24.2.2.2.2.2.2.2.1, y24.2.2.2.2.2.2.2.2.1, y24.2.2.2.2.2.2.2.2.2.1, ()))).bind fun y25 =>
 ((show Option (tC × tC × Unit × List Int × tC × Int × Int × (Nat × Nat) × Int × Int × Unit) from
 ((iterN (fun x => runD_s28 x.1 x.2.1 x.2.2.2.1 x.2.2.2.2.1 x.2.2.2.2.2.1 x.2.2.2.2.2.2.1 x.2.2.2.2.2.2.2.1 x.2.2.2.2.2.2.2.2.1 x.2.2.2.2.2.2.2.2.2.1) fuN (y25.1, y25.2.1, (), y25.2.2.2.1, y25.2.2.2.2.1, y25.2.2.2.2.2.1, y25.2.2.2.2.2.2.1, y25.2.2.2.2.2.2.2.1, y25.2.2.2.2.2.2.2.2.1, y25.2.2.2.2.2.2.2.2.2.1, ())).bind fun y32 =>
 some (y32.1, y32.2.1, (), y32.2.2.2.1, y32.2.2.2.2.1, y32.2.2.2.2.2.1, y32.2.2.2.2.2.2.1, y32.2.2.2.2.2.2.2.1, y32.2.2.2.2.2.2.2.2.1, y32.2.2.2.2.2.2.2.2.2.1, ()))).bind fun y33 =>
 ((show Option (tC × tC × Unit × List Int × tC × Int × Int × (Nat × Nat) × Int × Int × Bool × Unit) from
 bif (decide ((y33.1.length : Int) > 0)) then
 ((lk y33.1 (0 : Int)).bind fun x35 =>
 bif (decide ((y33.2.1.length : Int) > 0)) then
 ((lk y33.2.1 (0 : Int)).bind fun x36 =>
 ((dF (decide (x35.1 ≤ y33.2.2.2.2.2.2.1)) (decide (x36.1 ≤ y33.2.2.2.2.2.2.1))).bind fun r37 =>
 some (y33.1, y33.2.1, (), y33.2.2.2.1, y33.2.2.2.2.1, y33.2.2.2.2.2.1, y33.2.2.2.2.2.2.1, y33.2.2.2.2.2.2.2.1, y33.2.2.2.2.2.2.2.2.1, y33.2.2.2.2.2.2.2.2.2.1, r37.2.1, ())))
 else
 ((dF (decide (x35.1 ≤ y33.2.2.2.2.2.2.1)) false).bind fun r38 =>
 some (y33.1, y33.2.1, (), y33.2.2.2.1, y33.2.2.2.2.1, y33.2.2.2.2.2.1, y33.2.2.2.2.2.2.1, y33.2.2.2.2.2.2.2.1, y33.2.2.2.2.2.2.2.2.1, y33.2.2.2.2.2.2.2.2.2.1, r38.2.1, ())))
 else
 bif (decide ((y33.2.1.length : Int) > 0)) then
 ((lk y33.2.1 (0 : Int)).bind fun x39 =>
 ((dF false (decide (x39.1 ≤ y33.2.2.2.2.2.2.1))).bind fun r40 =>
 some (y33.1, y33.2.1, (), y33.2.2.2.1, y33.2.2.2.2.1, y33.2.2.2.2.2.1, y33.2.2.2.2.2.2.1, y33.2.2.2.2.2.2.2.1, y33.2.2.2.2.2.2.2.2.1, y33.2.2.2.2.2.2.2.2.2.1, r40.2.1, ())))
 else
 ((dF false false).bind fun r41 =>
 some (y33.1, y33.2.1, (), y33.2.2.2.1, y33.2.2.2.2.1, y33.2.2.2.2.2.1, y33.2.2.2.2.2.2.1, y33.2.2.2.2.2.2.2.1, y33.2.2.2.2.2.2.2.2.1, y33.2.2.2.2.2.2.2.2.2.1, r41.2.1, ()))).bind fun y42 =>
 bif y42.2.2.2.2.2.2.2.2.2.2.1 then
 ((lk y42.2.2.2.1 (IntKind.i64.wrap (y42.2.2.2.2.2.1 + 1))).bind fun _x43 =>
 ((lk y42.2.2.2.1 (IntKind.i64.wrap (y42.2.2.2.2.2.1 + 1))).bind fun x44 =>
 bif (roomOk (y42.2.2.2.2.1.length + [(y42.2.2.2.2.2.2.1, (IntKind.i32.wrap (x44 - 1)))].length) 8) then
 let l45 := (y42.2.2.2.2.1 ++ [(y42.2.2.2.2.2.2.1, (IntKind.i32.wrap (x44 - 1)))])
 some (.inl (y42.1, y42.2.1, (), y42.2.2.2.1, l45, y42.2.2.2.2.2.2.2.1, y42.2.2.2.2.2.2.2.2.1, (IntKind.i64.wrap (y42.2.2.2.2.2.2.2.2.2.1 + 1)), ()))
 else none))
 else
 some (.inl (y42.1, y42.2.1, (), y42.2.2.2.1, y42.2.2.2.2.1, y42.2.2.2.2.2.2.2.1, y42.2.2.2.2.2.2.2.2.1, (IntKind.i64.wrap (y42.2.2.2.2.2.2.2.2.2.1 + 1)), ()))))))
 else none
 else
 some (.inr (a10, ()))
def runD (p1 : tC) (p2 : tC) : Option (Unit × tC × Unit) :=
 ((rNorm p1).bind fun r1 =>
 ((rNorm p2).bind fun r2 =>
 ((show Option (tC × tC × Unit × List Int × Unit) from
 ((concat [r1.2.1, r2.2.1]).bind fun r4 =>
 ((iterN (fun x => runD_s6 x.1 x.2.1 x.2.2.2.1 x.2.2.2.2.1 x.2.2.2.2.2.1 x.2.2.2.2.2.2.1) fuN (r1.2.1, r2.2.1, (), [(0 : Int), (1114112 : Int)], r4.2.1, (r4.2.1.length : Int), (0 : Int), ())).bind fun y9 =>
 some (y9.1, y9.2.1, (), y9.2.2.2.1, ())))).bind fun y10 =>
 ((sortI y10.2.2.2.1).bind fun r11 =>
 ((compactI r11.1).bind fun r12 =>
 ((show Option (tC × Unit) from
 bif (inB (0 : Int) (IntKind.i64.wrap ((r12.2.1.length : Int) - 1)) r12.2.1.length) then
 let v14 := ((IntKind.i64.wrap ((r12.2.1.length : Int) - 1)) - 0).toNat
 ((iterN (fun x => runD_s16 x.1 x.2.1 x.2.2.2.1 x.2.2.2.2.1 x.2.2.2.2.2.1 x.2.2.2.2.2.2.1 x.2.2.2.2.2.2.2.1) fuN (y10.1, y10.2.1, (), r12.2.1, ([] : tC), ((0 : Int).toNat, v14), (v14 : Int), (0 : Int), ())).bind fun y46 =>
 some (y46.1, ()))
 else none).bind fun y47 =>
 ((rNorm y47.1).bind fun r48 =>
 some ((), r48.2.1, ()))))))))
def runD_c : Ctr := ⟨[.ro (.st (.clo 60 .unit)), .ro s0, .ro s0], [.own (.vec y0)], fun v => runD v.2.1 v.2.2.1⟩
def runD_h : zH := fun i => if i = 1110021 then zC [zN [(10, .vec y0)]] else if i = 12 then zL [(1, s0), (2, s0), (3, .bx (.st (.clo 60 .unit))), (7, .vec yi32), (10, .vec y0), (44, (.osl 1)), (45, yi64), (46, yi64)] [zX 2 [(10, .vec y0)]] else if i = 1180019 then zC [zN [(1, s0), (2, s0), (3, .bx (.st (.clo 60 .unit))), (7, .vec yi32), (10, .vec y0), (11, yi64), (12, yi32), (44, (.osl 1)), (45, yi64), (46, yi64), (101, .bool)]] else if i = 1160018 then zC [zN [(1, s0), (2, s0), (3, .bx (.st (.clo 60 .unit))), (7, .vec yi32), (10, .vec y0), (11, yi64), (12, yi32), (44, (.osl 1)), (45, yi64), (46, yi64)]] else if i = 16 then zL [(1, s0), (2, s0), (3, .bx (.st (.clo 60 .unit))), (7, .vec yi32), (10, .vec y0), (11, yi64), (12, yi32), (44, (.osl 1)), (45, yi64), (46, yi64)] [zX 6 [(1, s0), (2, s0), (3, .bx (.st (.clo 60 .unit))), (7, .vec yi32), (10, .vec y0), (11, yi64), (12, yi32), (44, (.osl 1)), (45, yi64), (46, yi64)]] else if i = 1160017 then zC [zN [(1, s0), (2, s0), (3, .bx (.st (.clo 60 .unit))), (7, .vec yi32), (10, .vec y0), (11, yi64), (12, yi32), (44, (.osl 1)), (45, yi64), (46, yi64)], zX 6 [(1, s0), (2, s0), (3, .bx (.st (.clo 60 .unit))), (7, .vec yi32), (10, .vec y0), (11, yi64), (12, yi32), (44, (.osl 1)), (45, yi64), (46, yi64)]] else if i = 1140016 then zC [zN [(1, s0), (2, s0), (3, .bx (.st (.clo 60 .unit))), (7, .vec yi32), (10, .vec y0), (11, yi64), (12, yi32), (44, (.osl 1)), (45, yi64), (46, yi64)]] else if i = 14 then zL [(1, s0), (2, s0), (3, .bx (.st (.clo 60 .unit))), (7, .vec yi32), (10, .vec y0), (11, yi64), (12, yi32), (44, (.osl 1)), (45, yi64), (46, yi64)] [zX 4 [(1, s0), (2, s0), (3, .bx (.st (.clo 60 .unit))), (7, .vec yi32), (10, .vec y0), (11, yi64), (12, yi32), (44, (.osl 1)), (45, yi64), (46, yi64)]] else if i = 1140015 then zC [zN [(1, s0), (2, s0), (3, .bx (.st (.clo 60 .unit))), (7, .vec yi32), (10, .vec y0), (11, yi64), (12, yi32), (44, (.osl 1)), (45, yi64), (46, yi64)], zX 4 [(1, s0), (2, s0), (3, .bx (.st (.clo 60 .unit))), (7, .vec yi32), (10, .vec y0), (11, yi64), (12, yi32), (44, (.osl 1)), (45, yi64), (46, yi64)]] else if i = 1030008 then zC [zN [(1, s0), (2, s0), (3, .bx (.st (.clo 60 .unit))), (7, .vec yi32)]] else if i = 4 then zL [(1, s0), (2, s0), (3, .bx (.st (.clo 60 .unit))), (7, .vec yi32), (21, .vec y0), (22, yi64), (23, yi64)] [zX 0 [(1, s0), (2, s0), (3, .bx (.st (.clo 60 .unit))), (7, .vec yi32)]] else none
def runD_g : zG := [(77, sortI_c), (78, compactI_c), (31, rNorm_c), (60, dF_c), (76, concat_c)]
theorem runD_eq : EqB runD_c runD_g runD_h 116 Tryz.f58 [6] [] := fun v => by kernel_rfl
def rUnion (p0 : tC) (p1 : tC) : Option (Unit × tC × Unit) :=
 ((runU p0 p1).bind fun r1 =>
 some ((), r1.2.1, ()))
def rUnion_c : Ctr := ⟨[.ro s0, .ro s0], [.own (.vec y0)], fun v => rUnion v.1 v.2.1⟩
def rUnion_g : zG := [(58, runU_c), (58, runM_c), (58, runD_c)]
theorem rUnion_eq : EqB rUnion_c rUnion_g h0 9 Tryz.f34 [4] [] := fun v => by kernel_rfl
def rMeet (p0 : tC) (p1 : tC) : Option (Unit × tC × Unit) :=
 ((runM p0 p1).bind fun r1 =>
 some ((), r1.2.1, ()))
def rMeet_c : Ctr := ⟨[.ro s0, .ro s0], [.own (.vec y0)], fun v => rMeet v.1 v.2.1⟩
def rMeet_g : zG := [(58, runU_c), (58, runM_c), (58, runD_c)]
theorem rMeet_eq : EqB rMeet_c rMeet_g h0 9 Tryz.f36 [4] [] := fun v => by kernel_rfl
def rMinus (p0 : tC) (p1 : tC) : Option (Unit × tC × Unit) :=
 ((runD p0 p1).bind fun r1 =>
 some ((), r1.2.1, ()))
def rMinus_c : Ctr := ⟨[.ro s0, .ro s0], [.own (.vec y0)], fun v => rMinus v.1 v.2.1⟩
def rMinus_g : zG := [(58, runU_c), (58, runM_c), (58, runD_c)]
theorem rMinus_eq : EqB rMinus_c rMinus_g h0 9 Tryz.f38 [4] [] := fun v => by kernel_rfl
def hasF (p0 : (Int × Int)) (p1 : Int) : Option (Unit × Bool × Unit) :=
 bif (decide (p0.1 ≤ p1)) then
 some ((), (decide (p1 ≤ p0.2)), ())
 else
 some ((), false, ())
def hasF_c : Ctr := ⟨[.ro y0, .ro (.rad yi32 0)], [.val .bool], fun v => hasF v.1 v.2.1⟩
theorem hasF_eq : EqB hasF_c [] h0 14 Tryz.f66 [3] [] := fun v => by kernel_rfl
def indexFunc_s2 (a0 : tC) (a1 : (Int × Unit)) (a7 : Int) (a8 : Int) : Option ((tC × (Int × Unit) × Int × Int × Unit) ⊕ ((Int × Unit) ⊕ Unit)) :=
 bif (decide (a8 < a7)) then
 ((lk a0 a8).bind fun x3 =>
 ((hasF x3 a1.1).bind fun r4 =>
 bif r4.2.1 then
 some (.inr (.inl (a8, ())))
 else
 some (.inl (a0, a1, a7, (IntKind.i64.wrap (a8 + 1)), ()))))
 else
 some (.inr (.inr ()))
def indexFunc (p0 : tC) (p1 : (Int × Unit)) : Option (Unit × Int × Unit) :=
 ((iterN (fun x => indexFunc_s2 x.1 x.2.1 x.2.2.1 x.2.2.2.1) fuN (p0, p1, (p0.length : Int), (0 : Int), ())).bind fun y5 =>
 (match y5 with
 | .inl y5 =>
 some ((), y5.1, ())
 | .inr y5 =>
 some ((), (-1 : Int), ())))
def indexFunc_c : Ctr := ⟨[.ro s0, .ro (.clo 66 (.pair (.rad yi32 0) .unit))], [.val yi64], fun v => indexFunc v.1 v.2.1⟩
def indexFunc_h : zH := fun i => if i = 2 then zL [(0, s0), (1, (.clo 66 (.pair (.rad yi32 0) .unit))), (7, yi64), (8, yi64)] [zR [(4, yi64)], zX 0 []] else none
def indexFunc_g : zG := [(66, hasF_c)]
theorem indexFunc_eq : EqB indexFunc_c indexFunc_g indexFunc_h 19 Tryz.f83 [4] [] := fun v => by kernel_rfl
def containsFunc (p0 : tC) (p1 : (Int × Unit)) : Option (Unit × Bool × Unit) :=
 ((indexFunc p0 p1).bind fun r1 =>
 some ((), (decide (r1.2.1 ≥ 0)), ()))
def containsFunc_c : Ctr := ⟨[.ro s0, .ro (.clo 66 (.pair (.rad yi32 0) .unit))], [.val .bool], fun v => containsFunc v.1 v.2.1⟩
def containsFunc_g : zG := [(83, indexFunc_c)]
theorem containsFunc_eq : EqB containsFunc_c containsFunc_g h0 9 Tryz.f65 [4] [] := fun v => by kernel_rfl
def rHas (p0 : tC) (p1 : Int) : Option (Unit × Bool × Unit) :=
 bif (decide (p1 ≥ 0)) then
 bif (decide (p1 ≤ 1114111)) then
 ((containsFunc p0 (p1, ())).bind fun r1 =>
 some ((), r1.2.1, ()))
 else
 some ((), false, ())
 else
 some ((), false, ())
def rHas_c : Ctr := ⟨[.ro s0, .ro yi32], [.val .bool], fun v => rHas v.1 v.2.1⟩
def rHas_g : zG := [(65, containsFunc_c)]
theorem rHas_eq : EqB rHas_c rHas_g h0 16 Tryz.f42 [4] [] := fun v => by kernel_rfl
def utfValid (p0 : Int) : Option (Unit × Bool × Unit) :=
 bif (decide (p0 ≥ 0)) then
 bif (decide (p0 ≤ 1114111)) then
 bif (decide (p0 < 55296)) then
 some ((), true, ())
 else
 some ((), (decide (p0 > 57343)), ())
 else
 some ((), false, ())
 else
 some ((), false, ())
def utfValid_c : Ctr := ⟨[.ro yi32], [.val .bool], fun v => utfValid v.1⟩
theorem utfValid_eq : EqB utfValid_c [] h0 17 Tryz.f82 [2] [] := fun v => by kernel_rfl
def utfLead (p0 : Int) : Option (Unit × Int × Int × Int × Int × Unit) :=
 ((show Option ((Int × Int × Int × Int × Unit) ⊕ (Int × Int × Int × Unit)) from
 bif (decide (p0 < 128)) then
 some (.inl ((1 : Int), (IntKind.i32.wrap (p0)), (128 : Int), (191 : Int), ()))
 else
 ((show Option (Int × Int × Int × Bool × Unit) from
 bif (decide (p0 < 194)) then
 some (p0, (128 : Int), (191 : Int), true, ())
 else
 some (p0, (128 : Int), (191 : Int), (decide (p0 > 244)), ())).bind fun y3 =>
 bif y3.2.2.2.1 then
 some (.inl ((0 : Int), (0 : Int), y3.2.1, y3.2.2.1, ()))
 else
 bif (decide (y3.1 < 224)) then
 let v4 := (IntKind.u8.wrap (((BitVec.ofInt IntKind.u8.bits y3.1 &&& BitVec.ofInt IntKind.u8.bits (31 : Int)).toNat : Int)))
 some (.inl ((2 : Int), (IntKind.i32.wrap (v4)), y3.2.1, y3.2.2.1, ()))
 else
 bif (decide (y3.1 < 240)) then
 ((show Option (Int × Int × Int × Unit) from
 bif (y3.1 == 224) then
 some (y3.1, (160 : Int), y3.2.2.1, ())
 else
 bif (y3.1 == 237) then
 some (y3.1, y3.2.1, (159 : Int), ())
 else
 some (y3.1, y3.2.1, y3.2.2.1, ())).bind fun y6 =>
 let v7 := (IntKind.u8.wrap (((BitVec.ofInt IntKind.u8.bits y6.1 &&& BitVec.ofInt IntKind.u8.bits (15 : Int)).toNat : Int)))
 some (.inl ((3 : Int), (IntKind.i32.wrap (v7)), y6.2.1, y6.2.2.1, ())))
 else
 some (.inr (y3.1, y3.2.1, y3.2.2.1, ())))).bind fun y8 =>
 (match y8 with
 | .inl y8 =>
 some ((), y8.1, y8.2.1, y8.2.2.1, y8.2.2.2.1, ())
 | .inr y8 =>
 ((show Option (Int × Int × Int × Unit) from
 bif (y8.1 == 240) then
 some (y8.1, (144 : Int), y8.2.2.1, ())
 else
 bif (y8.1 == 244) then
 some (y8.1, y8.2.1, (143 : Int), ())
 else
 some (y8.1, y8.2.1, y8.2.2.1, ())).bind fun y10 =>
 let v11 := (IntKind.u8.wrap (((BitVec.ofInt IntKind.u8.bits y10.1 &&& BitVec.ofInt IntKind.u8.bits (7 : Int)).toNat : Int)))
 some ((), (4 : Int), (IntKind.i32.wrap (v11)), y10.2.1, y10.2.2.1, ()))))
def utfLead_c : Ctr := ⟨[.ro yu8], [.val yi64, .val yi32, .val yu8, .val yu8], fun v => utfLead v.1⟩
def utfLead_h : zH := fun i => if i = 1140018 then zC [zN [(0, yu8), (4, yu8), (5, yu8)]] else if i = 1020014 then zC [zR [(2, yi64), (3, yi32), (4, yu8), (5, yu8)], zN [(0, yu8), (4, yu8), (5, yu8)]] else if i = 1090013 then zC [zN [(0, yu8), (4, yu8), (5, yu8)]] else if i = 1040005 then zC [zN [(0, yu8), (4, yu8), (5, yu8), (13, .bool)]] else none
theorem utfLead_eq : EqB utfLead_c [] utfLead_h 51 Tryz.f125 [2, 3, 4, 5] [] := fun v => by kernel_rfl
def utfOne_s7 (a0 : List Int) (a2 : Int) (a5 : Int) (a6 : Int) (a7 : Int) (a8 : Int) : Option ((List Int × Int × Int × Int × Int × Int × Unit) ⊕ ((Int × Int × Bool × Unit) ⊕ (Int × Int × Unit))) :=
 ((show Option ((List Int × Int × Int × Int × Int × Int × Unit) ⊕ (Int × Int × Unit)) from
 bif (decide (a8 < a5)) then
 some (.inl (a0, a2, a5, a6, a7, a8, ()))
 else
 some (.inr (a2, a5, ()))).bind fun y9 =>
 (match y9 with
 | .inl y9 =>
 ((show Option ((Int × Int × Bool × Unit) ⊕ (List Int × Int × Int × Int × Int × Int × Unit)) from
 ((show Option ((Int × Int × Bool × Unit) ⊕ (List Int × Int × Int × Int × Int × Int × Unit)) from
 bif (y9.2.2.2.2.2.1 == (y9.1.length : Int)) then
 some (.inl ((65533 : Int), y9.2.2.2.2.2.1, true, ()))
 else
 some (.inr (y9.1, y9.2.1, y9.2.2.1, y9.2.2.2.1, y9.2.2.2.2.1, y9.2.2.2.2.2.1, ()))).bind fun y12 =>
 (match y12 with
 | .inl y12 =>
 some (.inl (y12.1, y12.2.1, y12.2.2.1, ()))
 | .inr y12 =>
 ((show Option ((Int × Int × Bool × Unit) ⊕ (List Int × Int × Int × Int × Unit)) from
 ((show Option (List Int × Int × Int × Int × Bool × Unit) from
 ((lk y12.1 y12.2.2.2.2.2.1).bind fun x15 =>
 bif (decide (x15 < y12.2.2.2.1)) then
 some (y12.1, y12.2.1, y12.2.2.1, y12.2.2.2.2.2.1, true, ())
 else
 ((lk y12.1 y12.2.2.2.2.2.1).bind fun x16 =>
 some (y12.1, y12.2.1, y12.2.2.1, y12.2.2.2.2.2.1, (decide (x16 > y12.2.2.2.2.1)), ())))).bind fun y17 =>
 bif y17.2.2.2.2.1 then
 some (.inl ((65533 : Int), y17.2.2.2.1, false, ()))
 else
 some (.inr (y17.1, y17.2.1, y17.2.2.1, y17.2.2.2.1, ())))).bind fun y18 =>
 (match y18 with
 | .inl y18 =>
 some (.inl (y18.1, y18.2.1, y18.2.2.1, ()))
 | .inr y18 =>
 bif (decide (0 ≤ (6 : Int))) then
 let v19 := (IntKind.i32.wrap (y18.2.1 * 2 ^ (min (6 : Int).toNat IntKind.i32.bits)))
 ((lk y18.1 y18.2.2.2.1).bind fun x20 =>
 let v21 := (IntKind.u8.wrap (((BitVec.ofInt IntKind.u8.bits x20 &&& BitVec.ofInt IntKind.u8.bits (63 : Int)).toNat : Int)))
 let v22 := (IntKind.i32.wrap (((BitVec.ofInt IntKind.i32.bits v19 ||| BitVec.ofInt IntKind.i32.bits (IntKind.i32.wrap (v21))).toNat : Int)))
 some (.inr (y18.1, v22, y18.2.2.1, (128 : Int), (191 : Int), y18.2.2.2.1, ())))
 else none))))).bind fun y23 =>
 (match y23 with
 | .inl y23 =>
 some (.inr (.inl (y23.1, y23.2.1, y23.2.2.1, ())))
 | .inr y23 =>
 some (.inl (y23.1, y23.2.1, y23.2.2.1, y23.2.2.2.1, y23.2.2.2.2.1, (IntKind.i64.wrap (y23.2.2.2.2.2.1 + 1)), ()))))
 | .inr y9 =>
 some (.inr (.inr (y9.1, y9.2.1, ())))))
def utfOne (p0 : List Int) : Option (Unit × Int × Int × Bool × Unit) :=
 ((lk p0 (0 : Int)).bind fun x1 =>
 ((utfLead x1).bind fun r2 =>
 ((show Option ((Int × Int × Bool × Unit) ⊕ (List Int × Int × Int × Int × Int × Unit)) from
 bif (r2.2.1 == 0) then
 some (.inl ((65533 : Int), (1 : Int), false, ()))
 else
 some (.inr (p0, r2.2.2.1, r2.2.1, r2.2.2.2.1, r2.2.2.2.2.1, ()))).bind fun y4 =>
 (match y4 with
 | .inl y4 =>
 some ((), y4.1, y4.2.1, y4.2.2.1, ())
 | .inr y4 =>
 ((show Option ((Int × Int × Bool × Unit) ⊕ (Int × Int × Unit)) from
 ((iterN (fun x => utfOne_s7 x.1 x.2.1 x.2.2.1 x.2.2.2.1 x.2.2.2.2.1 x.2.2.2.2.2.1) fuN (y4.1, y4.2.1, y4.2.2.1, y4.2.2.2.1, y4.2.2.2.2.1, (1 : Int), ())).bind fun y24 =>
 (match y24 with
 | .inl y24 =>
 some (.inl (y24.1, y24.2.1, y24.2.2.1, ()))
 | .inr y24 =>
 some (.inr (y24.1, y24.2.1, ()))))).bind fun y25 =>
 (match y25 with
 | .inl y25 =>
 some ((), y25.1, y25.2.1, y25.2.2.1, ())
 | .inr y25 =>
 some ((), y25.1, y25.2.1, false, ())))))))
def utfOne_c : Ctr := ⟨[.ro (.slice yu8)], [.val yi32, .val yi64, .val .bool], fun v => utfOne v.1⟩
def utfOne_h : zH := fun i => if i = 1040013 then zC [zR [(2, yi32), (3, yi64), (4, .bool)], zN [(2, yi32), (5, yi64)]] else if i = 5 then zL [(0, .slice yu8), (2, yi32), (5, yi64), (6, yu8), (7, yu8), (8, yi64)] [zR [(2, yi32), (3, yi64), (4, .bool)], zX 0 [(2, yi32), (5, yi64)]] else if i = 1070006 then zC [zR [(2, yi32), (3, yi64), (4, .bool)], zN [(0, .slice yu8), (2, yi32), (5, yi64), (6, yu8), (7, yu8), (8, yi64)]] else if i = 1090011 then zC [zR [(2, yi32), (3, yi64), (4, .bool)], zN [(0, .slice yu8), (2, yi32), (5, yi64), (8, yi64)]] else if i = 1090010 then zC [zN [(0, .slice yu8), (2, yi32), (5, yi64), (8, yi64), (43, .bool)]] else if i = 1070009 then zC [zR [(2, yi32), (3, yi64), (4, .bool)], zN [(0, .slice yu8), (2, yi32), (5, yi64), (6, yu8), (7, yu8), (8, yi64)]] else if i = 1050007 then zC [zN [(0, .slice yu8), (2, yi32), (5, yi64), (6, yu8), (7, yu8), (8, yi64)], zX 0 [(2, yi32), (5, yi64)]] else if i = 1020004 then zC [zR [(2, yi32), (3, yi64), (4, .bool)], zN [(0, .slice yu8), (2, yi32), (5, yi64), (6, yu8), (7, yu8)]] else none
def utfOne_g : zG := [(125, utfLead_c)]
theorem utfOne_eq : EqB utfOne_c utfOne_g utfOne_h 56 Tryz.f106 [2, 3, 4] [] := fun v => by kernel_rfl
def utfNew : Option (Unit × (List Int × Int × Bool) × Unit) :=
 some ((), (([] : List Int), (0 : Int), false), ())
def utfNew_c : Ctr := ⟨[], [.own (.bx (.st (.pair (.vec yu8) (.pair yi64 .bool))))], fun v => utfNew⟩
theorem utfNew_eq : EqB utfNew_c [] h0 3 Tryz.f79 [0] [] := fun v => by kernel_rfl
def utfWrite_s4 (a0 : (Unit × Int × Bool)) (a5 : List Int) (a6 : List (Int × Int × Int)) : Option (((Unit × Int × Bool) × List Int × List (Int × Int × Int) × Unit) ⊕ ((Unit × Int × Bool) × List Int × List (Int × Int × Int) × Unit)) :=
 ((show Option (((Unit × Int × Bool) × List Int × List (Int × Int × Int) × Unit) ⊕ ((Unit × Int × Bool) × List Int × List (Int × Int × Int) × Unit)) from
 bif (decide ((a5.length : Int) > 0)) then
 some (.inl (((), a0.2), a5, a6, ()))
 else
 some (.inr (((), a0.2), a5, a6, ()))).bind fun y6 =>
 (match y6 with
 | .inl y6 =>
 ((utfOne y6.2.1).bind fun r7 =>
 ((show Option (((Unit × Int × Bool) × List Int × List (Int × Int × Int) × Unit) ⊕ ((Unit × Int × Bool) × List Int × List (Int × Int × Int) × Int × Int × Unit)) from
 bif r7.2.2.2.1 then
 some (.inl (((), y6.1.2), y6.2.1, y6.2.2.1, ()))
 else
 some (.inr (((), y6.1.2), y6.2.1, y6.2.2.1, r7.2.1, r7.2.2.1, ()))).bind fun y9 =>
 (match y9 with
 | .inl y9 =>
 some (.inr (((), y9.1.2), y9.2.1, y9.2.2.1, ()))
 | .inr y9 =>
 bif (roomOk (y9.2.2.1.length + [(y9.2.2.2.1, y9.1.2.1, y9.2.2.2.2.1)].length) 24) then
 bif (inB y9.2.2.2.2.1 (y9.2.1.length : Int) y9.2.1.length) then
 some (.inl (((), (IntKind.i64.wrap (y9.1.2.1 + y9.2.2.2.2.1)), y9.1.2.2), (((y9.2.1).drop y9.2.2.2.2.1.toNat).take ((y9.2.1.length : Int) - y9.2.2.2.2.1).toNat), (y9.2.2.1 ++ [(y9.2.2.2.1, y9.1.2.1, y9.2.2.2.2.1)]), ()))
 else none
 else none)))
 | .inr y6 =>
 some (.inr (((), y6.1.2), y6.2.1, y6.2.2.1, ()))))
def utfWrite (p0 : (List Int × Int × Bool)) (p1 : List Int) : Option ((List Int × Int × Bool) × List (Int × Int × Int) × Unit) :=
 ((show Option (((List Int × Int × Bool) × Unit × Unit) ⊕ ((List Int × Int × Bool) × List Int × Unit)) from
 bif p0.2.2 then
 some (.inl (p0, (), ()))
 else
 some (.inr (p0, p1, ()))).bind fun y1 =>
 (match y1 with
 | .inl y1 =>
 some (y1.1, ([] : List (Int × Int × Int)), ())
 | .inr y1 =>
 bif (roomOk (y1.1.1.length + y1.2.1.length) 1) then
 ((show Option ((Unit × Int × Bool) × List Int × List (Int × Int × Int) × Unit) from
 ((iterN (fun x => utfWrite_s4 x.1 x.2.1 x.2.2.1) fuN (((), y1.1.2), (y1.1.1 ++ y1.2.1), ([] : List (Int × Int × Int)), ())).bind fun y10 =>
 some (((), y10.1.2), y10.2.1, y10.2.2.1, ()))).bind fun y11 =>
 bif (roomOk y11.2.1.length 1) then
 some ((y11.2.1, y11.1.2), y11.2.2.1, ())
 else none)
 else none))
def utfWrite_c : Ctr := ⟨[.mu (.bx (.st (.pair (.vec yu8) (.pair yi64 .bool)))), .ro (.slice yu8)], [.own (.vec y4)], fun v => utfWrite v.1 v.2.1⟩
def utfWrite_h : zH := fun i => if i = 1050011 then zC [zN [(0, .bx (.st (.pair .lost (.pair yi64 .bool)))), (5, .vec yu8), (6, .vec y4)]] else if i = 5 then zL [(0, .bx (.st (.pair .lost (.pair yi64 .bool)))), (5, .vec yu8), (6, .vec y4)] [zX 0 [(0, .bx (.st (.pair .lost (.pair yi64 .bool)))), (5, .vec yu8), (6, .vec y4)]] else if i = 1070008 then zC [zX 0 [(0, .bx (.st (.pair .lost (.pair yi64 .bool)))), (5, .vec yu8), (6, .vec y4)], zN [(0, .bx (.st (.pair .lost (.pair yi64 .bool)))), (5, .vec yu8), (6, .vec y4), (7, yi32), (8, yi64)]] else if i = 1050006 then zC [zN [(0, .bx (.st (.pair .lost (.pair yi64 .bool)))), (5, .vec yu8), (6, .vec y4)], zX 0 [(0, .bx (.st (.pair .lost (.pair yi64 .bool)))), (5, .vec yu8), (6, .vec y4)]] else if i = 1010003 then zC [zR [(0, .bx (.st (.pair (.vec yu8) (.pair yi64 .bool)))), (4, .nils)], zN [(0, .bx (.st (.pair (.vec yu8) (.pair yi64 .bool)))), (1, .slice yu8)]] else none
def utfWrite_g : zG := [(106, utfOne_c)]
theorem utfWrite_eq : EqB utfWrite_c utfWrite_g utfWrite_h 61 Tryz.f80 [4] [] := fun v => by kernel_rfl
def utfClose (p0 : (List Int × Int × Bool)) : Option ((List Int × Int × Bool) × List (Int × Int × Int) × Unit) :=
 ((show Option (((List Int × Int × Bool) × Unit × Unit) ⊕ ((List Int × Int × Bool) × Unit)) from
 bif p0.2.2 then
 some (.inl (p0, (), ()))
 else
 some (.inr (p0, ()))).bind fun y2 =>
 (match y2 with
 | .inl y2 =>
 some (y2.1, ([] : List (Int × Int × Int)), ())
 | .inr y2 =>
 ((show Option (((Unit × Int × Bool) × Unit × Unit) ⊕ ((Unit × Int × Bool) × Int × Unit)) from
 bif ((y2.1.1.length : Int) == 0) then
 some (.inl (((), y2.1.2.1, true), (), ()))
 else
 some (.inr (((), y2.1.2.1, true), (y2.1.1.length : Int), ()))).bind fun y4 =>
 (match y4 with
 | .inl y4 =>
 some ((([] : List Int), y4.1.2), ([] : List (Int × Int × Int)), ())
 | .inr y4 =>
 some ((([] : List Int), y4.1.2), [((65533 : Int), y4.1.2.1, y4.2.1)], ())))))
def utfClose_c : Ctr := ⟨[.mu (.bx (.st (.pair (.vec yu8) (.pair yi64 .bool))))], [.val (.slice y4)], fun v => utfClose v.1⟩
def utfClose_h : zH := fun i => if i = 1060008 then zC [zR [(0, .bx (.st (.pair .nils (.pair yi64 .bool)))), (2, .nils)], zN [(0, .bx (.st (.pair .nils (.pair yi64 .bool)))), (3, yi64)]] else if i = 1010003 then zC [zR [(0, .bx (.st (.pair (.vec yu8) (.pair yi64 .bool)))), (2, .nils)], zN [(0, .bx (.st (.pair (.vec yu8) (.pair yi64 .bool))))]] else none
theorem utfClose_eq : EqB utfClose_c [] utfClose_h 32 Tryz.f81 [2] [] := fun v => by kernel_rfl
def utfDecode (p0 : List Int) : Option (Unit × List (Int × Int × Int) × Unit) :=
 ((utfNew).bind fun r1 =>
 ((utfWrite r1.2.1 p0).bind fun r2 =>
 ((utfClose r2.1).bind fun r3 =>
 bif (roomOk (r2.2.1.length + r3.2.1.length) 24) then
 some ((), (r2.2.1 ++ r3.2.1), ())
 else none)))
def utfDecode_c : Ctr := ⟨[.ro (.slice yu8)], [.val (.slice y4)], fun v => utfDecode v.1⟩
def utfDecode_g : zG := [(79, utfNew_c), (80, utfWrite_c), (81, utfClose_c)]
theorem utfDecode_eq : EqB utfDecode_c utfDecode_g h0 11 Tryz.f63 [2] [] := fun v => by kernel_rfl
def utfEncode_s2 (a3 : List Int) (a6 : List Int) (a7 : Int) (a8 : Int) : Option ((List Int × List Int × Int × Int × Unit) ⊕ (List Int × Unit)) :=
 bif (decide (a8 < a7)) then
 ((lk a6 a8).bind fun x3 =>
 ((show Option (List Int × Int × List Int × Int × Int × Unit) from
 ((utfValid x3).bind fun r5 =>
 bif (!r5.2.1) then
 some (a3, (65533 : Int), a6, a7, a8, ())
 else
 some (a3, x3, a6, a7, a8, ()))).bind fun y6 =>
 bif (decide (y6.2.1 < 128)) then
 bif (roomOk (y6.1.length + [(IntKind.u8.wrap (y6.2.1))].length) 1) then
 some (.inl ((y6.1 ++ [(IntKind.u8.wrap (y6.2.1))]), y6.2.2.1, y6.2.2.2.1, (IntKind.i64.wrap (y6.2.2.2.2.1 + 1)), ()))
 else none
 else
 bif (decide (y6.2.1 < 2048)) then
 bif (decide (0 ≤ (6 : Int))) then
 let v7 := (Int.fdiv y6.2.1 (2 ^ (min (6 : Int).toNat IntKind.i32.bits)))
 let v8 := (IntKind.u8.wrap (((BitVec.ofInt IntKind.u8.bits (192 : Int) ||| BitVec.ofInt IntKind.u8.bits (IntKind.u8.wrap (v7))).toNat : Int)))
 let v9 := (IntKind.i32.wrap (((BitVec.ofInt IntKind.i32.bits y6.2.1 &&& BitVec.ofInt IntKind.i32.bits (63 : Int)).toNat : Int)))
 let v10 := (IntKind.u8.wrap (((BitVec.ofInt IntKind.u8.bits (128 : Int) ||| BitVec.ofInt IntKind.u8.bits (IntKind.u8.wrap (v9))).toNat : Int)))
 bif (roomOk (y6.1.length + [v8, v10].length) 1) then
 some (.inl ((y6.1 ++ [v8, v10]), y6.2.2.1, y6.2.2.2.1, (IntKind.i64.wrap (y6.2.2.2.2.1 + 1)), ()))
 else none
 else none
 else
 bif (decide (y6.2.1 < 65536)) then
 bif (decide (0 ≤ (12 : Int))) then
 let v11 := (Int.fdiv y6.2.1 (2 ^ (min (12 : Int).toNat IntKind.i32.bits)))
 let v12 := (IntKind.u8.wrap (((BitVec.ofInt IntKind.u8.bits (224 : Int) ||| BitVec.ofInt IntKind.u8.bits (IntKind.u8.wrap (v11))).toNat : Int)))
 bif (decide (0 ≤ (6 : Int))) then
 let v13 := (Int.fdiv y6.2.1 (2 ^ (min (6 : Int).toNat IntKind.i32.bits)))
 let v14 := (IntKind.i32.wrap (((BitVec.ofInt IntKind.i32.bits v13 &&& BitVec.ofInt IntKind.i32.bits (63 : Int)).toNat : Int)))
 let v15 := (IntKind.u8.wrap (((BitVec.ofInt IntKind.u8.bits (128 : Int) ||| BitVec.ofInt IntKind.u8.bits (IntKind.u8.wrap (v14))).toNat : Int)))
 let v16 := (IntKind.i32.wrap (((BitVec.ofInt IntKind.i32.bits y6.2.1 &&& BitVec.ofInt IntKind.i32.bits (63 : Int)).toNat : Int)))
 let v17 := (IntKind.u8.wrap (((BitVec.ofInt IntKind.u8.bits (128 : Int) ||| BitVec.ofInt IntKind.u8.bits (IntKind.u8.wrap (v16))).toNat : Int)))
 bif (roomOk (y6.1.length + [v12, v15, v17].length) 1) then
 some (.inl ((y6.1 ++ [v12, v15, v17]), y6.2.2.1, y6.2.2.2.1, (IntKind.i64.wrap (y6.2.2.2.2.1 + 1)), ()))
 else none
 else none
 else none
 else
 bif (decide (0 ≤ (18 : Int))) then
 let v18 := (Int.fdiv y6.2.1 (2 ^ (min (18 : Int).toNat IntKind.i32.bits)))
 let v19 := (IntKind.u8.wrap (((BitVec.ofInt IntKind.u8.bits (240 : Int) ||| BitVec.ofInt IntKind.u8.bits (IntKind.u8.wrap (v18))).toNat : Int)))
 bif (decide (0 ≤ (12 : Int))) then
 let v20 := (Int.fdiv y6.2.1 (2 ^ (min (12 : Int).toNat IntKind.i32.bits)))
 let v21 := (IntKind.i32.wrap (((BitVec.ofInt IntKind.i32.bits v20 &&& BitVec.ofInt IntKind.i32.bits (63 : Int)).toNat : Int)))
 let v22 := (IntKind.u8.wrap (((BitVec.ofInt IntKind.u8.bits (128 : Int) ||| BitVec.ofInt IntKind.u8.bits (IntKind.u8.wrap (v21))).toNat : Int)))
 bif (decide (0 ≤ (6 : Int))) then
 let v23 := (Int.fdiv y6.2.1 (2 ^ (min (6 : Int).toNat IntKind.i32.bits)))
 let v24 := (IntKind.i32.wrap (((BitVec.ofInt IntKind.i32.bits v23 &&& BitVec.ofInt IntKind.i32.bits (63 : Int)).toNat : Int)))
 let v25 := (IntKind.u8.wrap (((BitVec.ofInt IntKind.u8.bits (128 : Int) ||| BitVec.ofInt IntKind.u8.bits (IntKind.u8.wrap (v24))).toNat : Int)))
 let v26 := (IntKind.i32.wrap (((BitVec.ofInt IntKind.i32.bits y6.2.1 &&& BitVec.ofInt IntKind.i32.bits (63 : Int)).toNat : Int)))
 let v27 := (IntKind.u8.wrap (((BitVec.ofInt IntKind.u8.bits (128 : Int) ||| BitVec.ofInt IntKind.u8.bits (IntKind.u8.wrap (v26))).toNat : Int)))
 bif (roomOk (y6.1.length + [v19, v22, v25, v27].length) 1) then
 some (.inl ((y6.1 ++ [v19, v22, v25, v27]), y6.2.2.1, y6.2.2.2.1, (IntKind.i64.wrap (y6.2.2.2.2.1 + 1)), ()))
 else none
 else none
 else none
 else none))
 else
 some (.inr (a3, ()))
def utfEncode (p0 : List Int) : Option (Unit × List Int × Unit) :=
 ((iterN (fun x => utfEncode_s2 x.1 x.2.1 x.2.2.1 x.2.2.2.1) fuN (([] : List Int), p0, (p0.length : Int), (0 : Int), ())).bind fun y28 =>
 some ((), y28.1, ()))
def utfEncode_c : Ctr := ⟨[.ro (.slice yi32)], [.own (.vec yu8)], fun v => utfEncode v.1⟩
def utfEncode_h : zH := fun i => if i = 3 then zL [(3, .vec yu8), (6, .slice yi32), (7, yi64), (8, yi64)] [zX 0 [(3, .vec yu8)]] else if i = 1050008 then zC [zN [(3, .vec yu8), (5, yi32), (6, .slice yi32), (7, yi64), (8, yi64)]] else none
def utfEncode_g : zG := [(82, utfValid_c)]
theorem utfEncode_eq : EqB utfEncode_c utfEncode_g utfEncode_h 79 Tryz.f64 [2] [] := fun v => by kernel_rfl
def sRead_s6 (a0 : List UInt8) (a5 : List (Int × Int × Int)) (a6 : List Int) (a15 : List (Int × Int × Int)) (a16 : Int) (a17 : Int) : Option ((List UInt8 × List (Int × Int × Int) × List Int × List (Int × Int × Int) × Int × Int × Unit) ⊕ (List UInt8 × List (Int × Int × Int) × List Int × Unit)) :=
 bif (decide (a17 < a16)) then
 ((lk a15 a17).bind fun x7 =>
 bif (roomOk (a6.length + [x7.1].length) 4) then
 some (.inl (a0, a5, (a6 ++ [x7.1]), a15, a16, (IntKind.i64.wrap (a17 + 1)), ()))
 else none)
 else
 some (.inr (a0, a5, a6, ()))
def sRead (p0 : List UInt8) : Option (Unit × Int × Int × Bool × Unit) :=
 ((utfDecode (u8s p0)).bind fun r1 =>
 ((show Option ((Int × Int × Bool × Unit) ⊕ (List UInt8 × List (Int × Int × Int) × Unit)) from
 bif ((r1.2.1.length : Int) == 0) then
 some (.inl ((0 : Int), (0 : Int), true, ()))
 else
 some (.inr (p0, r1.2.1, ()))).bind fun y3 =>
 (match y3 with
 | .inl y3 =>
 some ((), y3.1, y3.2.1, y3.2.2.1, ())
 | .inr y3 =>
 ((show Option (List UInt8 × List (Int × Int × Int) × List Int × Unit) from
 ((iterN (fun x => sRead_s6 x.1 x.2.1 x.2.2.1 x.2.2.2.1 x.2.2.2.2.1 x.2.2.2.2.2.1) fuN (y3.1, y3.2.1, ([] : List Int), y3.2.1, (y3.2.1.length : Int), (0 : Int), ())).bind fun y8 =>
 some (y8.1, y8.2.1, y8.2.2.1, ()))).bind fun y9 =>
 ((lk y9.2.1 (0 : Int)).bind fun x10 =>
 ((utfEncode y9.2.2.1).bind fun r11 =>
 some ((), x10.1, (y9.2.1.length : Int), ((s8u r11.2.1) == y9.1), ())))))))
def sRead_c : Ctr := ⟨[.ro .str], [.val yi32, .val yi64, .val .bool], fun v => sRead v.1⟩
def sRead_h : zH := fun i => if i = 1050010 then zC [zN [(0, .str), (5, .slice y4), (6, .vec yi32)]] else if i = 6 then zL [(0, .str), (5, .slice y4), (6, .vec yi32), (15, .slice y4), (16, yi64), (17, yi64)] [zX 0 [(0, .str), (5, .slice y4), (6, .vec yi32)]] else if i = 1020004 then zC [zR [(2, yi32), (3, yi64), (4, .bool)], zN [(0, .str), (5, .slice y4)]] else none
def sRead_g : zG := [(63, utfDecode_c), (64, utfEncode_c)]
theorem sRead_eq : EqB sRead_c sRead_g sRead_h 38 Tryz.f41 [2, 3, 4] [] := fun v => by kernel_rfl
def sOdd_s3 (a3 : tW) (a9 : tW) (a10 : Int) (a11 : Int) : Option ((tW × tW × Int × Int × Unit) ⊕ (tW × Unit)) :=
 bif (decide (a11 < a10)) then
 ((lk a9 a11).bind fun x4 =>
 ((sRead x4).bind fun r5 =>
 ((show Option (tW × List UInt8 × tW × Int × Int × Bool × Unit) from
 bif r5.2.2.2.1 then
 some (a3, x4, a9, a10, a11, (decide (r5.2.2.1 > 1)), ())
 else
 some (a3, x4, a9, a10, a11, false, ())).bind fun y7 =>
 bif y7.2.2.2.2.2.1 then
 bif (roomOk (y7.1.length + [y7.2.1].length) 16) then
 some (.inl ((y7.1 ++ [y7.2.1]), y7.2.2.1, y7.2.2.2.1, (IntKind.i64.wrap (y7.2.2.2.2.1 + 1)), ()))
 else none
 else
 some (.inl (y7.1, y7.2.2.1, y7.2.2.2.1, (IntKind.i64.wrap (y7.2.2.2.2.1 + 1)), ())))))
 else
 some (.inr (a3, ()))
def sOdd (p0 : tW) : Option (Unit × tW × Unit) :=
 ((show Option (tW × Unit) from
 ((iterN (fun x => sOdd_s3 x.1 x.2.1 x.2.2.1 x.2.2.2.1) fuN (([] : tW), p0, (p0.length : Int), (0 : Int), ())).bind fun y8 =>
 some (y8.1, ()))).bind fun y9 =>
 ((sortS y9.1).bind fun r10 =>
 ((compactS r10.1).bind fun r11 =>
 some ((), r11.2.1, ()))))
def sOdd_c : Ctr := ⟨[.ro s1], [.own (.vec .str)], fun v => sOdd v.1⟩
def sOdd_h : zH := fun i => if i = 1020009 then zC [zN [(3, .vec .str)]] else if i = 3 then zL [(3, .vec .str), (9, s1), (10, yi64), (11, yi64)] [zX 0 [(3, .vec .str)]] else if i = 1060007 then zC [zN [(3, .vec .str), (5, .str), (9, s1), (10, yi64), (11, yi64), (25, .bool)]] else none
def sOdd_g : zG := [(54, sortS_c), (55, compactS_c), (41, sRead_c)]
theorem sOdd_eq : EqB sOdd_c sOdd_g sOdd_h 35 Tryz.f32 [2] [] := fun v => by kernel_rfl
def slEqualS_s4 (a0 : tW) (a1 : tW) (a12 : Int) (a13 : Int) : Option ((tW × tW × Int × Int × Unit) ⊕ ((Bool × Unit) ⊕ Unit)) :=
 bif (decide (a13 < a12)) then
 ((lk a0 a13).bind fun x5 =>
 ((lk a1 a13).bind fun x6 =>
 bif (!(x5 == x6)) then
 some (.inr (.inl (false, ())))
 else
 some (.inl (a0, a1, a12, (IntKind.i64.wrap (a13 + 1)), ()))))
 else
 some (.inr (.inr ()))
def slEqualS (p0 : tW) (p1 : tW) : Option (Unit × Bool × Unit) :=
 ((show Option ((Bool × Unit) ⊕ (tW × tW × Unit)) from
 bif ((p0.length : Int) != (p1.length : Int)) then
 some (.inl (false, ()))
 else
 some (.inr (p0, p1, ()))).bind fun y2 =>
 (match y2 with
 | .inl y2 =>
 some ((), y2.1, ())
 | .inr y2 =>
 ((iterN (fun x => slEqualS_s4 x.1 x.2.1 x.2.2.1 x.2.2.2.1) fuN (y2.1, y2.2.1, (y2.1.length : Int), (0 : Int), ())).bind fun y7 =>
 (match y7 with
 | .inl y7 =>
 some ((), y7.1, ())
 | .inr y7 =>
 some ((), true, ())))))
def slEqualS_c : Ctr := ⟨[.ro s1, .ro s1], [.val .bool], fun v => slEqualS v.1 v.2.1⟩
def slEqualS_h : zH := fun i => if i = 4 then zL [(0, s1), (1, s1), (12, yi64), (13, yi64)] [zR [(4, .bool)], zX 0 []] else if i = 1010003 then zC [zR [(4, .bool)], zN [(0, s1), (1, s1)]] else none
theorem slEqualS_eq : EqB slEqualS_c [] slEqualS_h 26 Tryz.f62 [4] [] := fun v => by kernel_rfl
def sNorm (p0 : tS) : Option (Unit × tS × Unit) :=
 ((rNorm p0.1).bind fun r1 =>
 ((rNorm p0.2.1).bind fun r2 =>
 ((sOdd p0.2.2).bind fun r3 =>
 some ((), (r1.2.1, r2.2.1, r3.2.1), ()))))
def sNorm_c : Ctr := ⟨[.ro y1], [.own y2], fun v => sNorm v.1⟩
def sNorm_g : zG := [(31, rNorm_c), (32, sOdd_c)]
theorem sNorm_eq : EqB sNorm_c sNorm_g h0 13 Tryz.f9 [13] [(2, 25)] := fun v => by kernel_rfl
def sSame (p0 : tS) (p1 : tS) : Option (Unit × Bool × Unit) :=
 ((slEqual p0.1 p1.1).bind fun r1 =>
 bif r1.2.1 then
 ((slEqual p0.2.1 p1.2.1).bind fun r2 =>
 bif r2.2.1 then
 ((slEqualS p0.2.2 p1.2.2).bind fun r3 =>
 some ((), r3.2.1, ()))
 else
 some ((), false, ()))
 else
 some ((), false, ()))
def sSame_c : Ctr := ⟨[.ro y1, .ro y1], [.val .bool], fun v => sSame v.1 v.2.1⟩
def sSame_g : zG := [(61, slEqual_c), (62, slEqualS_c)]
theorem sSame_eq : EqB sSame_c sSame_g h0 24 Tryz.f40 [4] [] := fun v => by kernel_rfl
def sMay (p0 : tS) : Option (Unit × Bool × Unit) :=
 ((sNorm p0).bind fun r1 =>
 ((sSame r1.2.1 p0).bind fun r2 =>
 some ((), r2.2.1, ())))
def sMay_c : Ctr := ⟨[.ro y1], [.val .bool], fun v => sMay v.1⟩
def sMay_g : zG := [(9, sNorm_c), (40, sSame_c)]
theorem sMay_eq : EqB sMay_c sMay_g h0 7 Tryz.f14 [2] [] := fun v => by kernel_rfl
def indexS_s2 (a0 : tW) (a1 : List UInt8) (a7 : Int) (a8 : Int) : Option ((tW × List UInt8 × Int × Int × Unit) ⊕ ((Int × Unit) ⊕ Unit)) :=
 bif (decide (a8 < a7)) then
 ((lk a0 a8).bind fun x3 =>
 bif (a1 == x3) then
 some (.inr (.inl (a8, ())))
 else
 some (.inl (a0, a1, a7, (IntKind.i64.wrap (a8 + 1)), ())))
 else
 some (.inr (.inr ()))
def indexS (p0 : tW) (p1 : List UInt8) : Option (Unit × Int × Unit) :=
 ((iterN (fun x => indexS_s2 x.1 x.2.1 x.2.2.1 x.2.2.2.1) fuN (p0, p1, (p0.length : Int), (0 : Int), ())).bind fun y4 =>
 (match y4 with
 | .inl y4 =>
 some ((), y4.1, ())
 | .inr y4 =>
 some ((), (-1 : Int), ())))
def indexS_c : Ctr := ⟨[.ro s1, .ro .str], [.val yi64], fun v => indexS v.1 v.2.1⟩
def indexS_h : zH := fun i => if i = 2 then zL [(0, s1), (1, .str), (7, yi64), (8, yi64)] [zR [(4, yi64)], zX 0 []] else none
theorem indexS_eq : EqB indexS_c [] indexS_h 19 Tryz.f67 [4] [] := fun v => by kernel_rfl
def containsS (p0 : tW) (p1 : List UInt8) : Option (Unit × Bool × Unit) :=
 ((indexS p0 p1).bind fun r1 =>
 some ((), (decide (r1.2.1 ≥ 0)), ()))
def containsS_c : Ctr := ⟨[.ro s1, .ro .str], [.val .bool], fun v => containsS v.1 v.2.1⟩
def containsS_g : zG := [(67, indexS_c)]
theorem containsS_eq : EqB containsS_c containsS_g h0 9 Tryz.f43 [4] [] := fun v => by kernel_rfl
def sHas (p0 : tS) (p1 : List UInt8) : Option (Unit × Bool × Unit) :=
 ((sRead p1).bind fun r1 =>
 ((show Option ((Bool × Unit) ⊕ (List UInt8 × tS × Int × Unit)) from
 bif (r1.2.2.1 == 0) then
 some (.inl (false, ()))
 else
 bif (r1.2.2.1 == 1) then
 ((rHas p0.1 r1.2.1).bind fun r3 =>
 some (.inl (r3.2.1, ())))
 else
 some (.inr (p1, p0, r1.2.1, ()))).bind fun y4 =>
 (match y4 with
 | .inl y4 =>
 some ((), y4.1, ())
 | .inr y4 =>
 ((rHas y4.2.1.2.1 y4.2.2.1).bind fun r5 =>
 ((containsS y4.2.1.2.2 y4.1).bind fun r6 =>
 some ((), (!(r5.2.1 == r6.2.1)), ()))))))
def sHas_c : Ctr := ⟨[.ro y1, .ro .str], [.val .bool], fun v => sHas v.1 v.2.1⟩
def sHas_h : zH := fun i => if i = 1020007 then zC [zR [(4, .bool)], zN [(1, .str), (2, .bx y1), (5, yi32)]] else none
def sHas_g : zG := [(42, rHas_c), (41, sRead_c), (43, containsS_c)]
theorem sHas_eq : EqB sHas_c sHas_g sHas_h 32 Tryz.f15 [4] [] := fun v => by kernel_rfl
def sOf (p0 : List UInt8) : Option (Unit × tS × Unit) :=
 ((sRead p0).bind fun r1 =>
 ((show Option (((tC × Unit × Unit) × Unit) ⊕ (List UInt8 × (Unit × Unit × Unit) × Unit)) from
 ((show Option (List UInt8 × (Unit × Unit × Unit) × Int × Int × Bool × Unit) from
 bif (r1.2.2.1 == 0) then
 some (p0, ((), (), ()), r1.2.1, r1.2.2.1, true, ())
 else
 some (p0, ((), (), ()), r1.2.1, r1.2.2.1, (!r1.2.2.2.1), ())).bind fun y4 =>
 bif y4.2.2.2.2.1 then
 some (.inl ((([] : tC), (), ()), ()))
 else
 bif (y4.2.2.2.1 == 1) then
 some (.inl (([(y4.2.2.1, y4.2.2.1)], (), ()), ()))
 else
 some (.inr (y4.1, ((), (), ()), ())))).bind fun y5 =>
 (match y5 with
 | .inl y5 =>
 some ((), (y5.1.1, ([] : tC), ([] : tW)), ())
 | .inr y5 =>
 some ((), (([] : tC), ([] : tC), [y5.1]), ()))))
def sOf_c : Ctr := ⟨[.ro .str], [.own y2], fun v => sOf v.1⟩
def sOf_h : zH := fun i => if i = 1020006 then zC [zR [(2, .bx (.st (.pair (.vec y0) (.pair .nils .nils))))], zN [(0, .str), (2, y3)]] else if i = 1020003 then zC [zN [(0, .str), (2, y3), (3, yi32), (4, yi64), (12, .bool)]] else none
def sOf_g : zG := [(41, sRead_c)]
theorem sOf_eq : EqB sOf_c sOf_g sOf_h 31 Tryz.f27 [31] [(2, 25)] := fun v => by kernel_rfl
def sFirst (p0 : tC) : Option (Unit × tS × Unit) :=
 ((rNorm p0).bind fun r1 =>
 ((rNorm p0).bind fun r2 =>
 some ((), (r1.2.1, r2.2.1, ([] : tW)), ())))
def sFirst_c : Ctr := ⟨[.ro s0], [.own y2], fun v => sFirst v.1⟩
def sFirst_g : zG := [(31, rNorm_c)]
theorem sFirst_eq : EqB sFirst_c sFirst_g h0 8 Tryz.f23 [8] [(2, 25)] := fun v => by kernel_rfl
def sOnes (p0 : tC) : Option (Unit × tS × Unit) :=
 ((rNorm p0).bind fun r1 =>
 some ((), (r1.2.1, ([] : tC), ([] : tW)), ()))
def sOnes_c : Ctr := ⟨[.ro s0], [.own y2], fun v => sOnes v.1⟩
def sOnes_g : zG := [(31, rNorm_c)]
theorem sOnes_eq : EqB sOnes_c sOnes_g h0 6 Tryz.f28 [6] [(2, 25)] := fun v => by kernel_rfl
def sAll : Option (Unit × tS × Unit) :=
 ((sFirst [((0 : Int), (1114111 : Int))]).bind fun r1 =>
 some ((), r1.2.1, ()))
def sAll_c : Ctr := ⟨[], [.own y2], fun v => sAll⟩
def sAll_g : zG := [(23, sFirst_c)]
theorem sAll_eq : EqB sAll_c sAll_g h0 4 Tryz.f21 [4] [(0, 25)] := fun v => by kernel_rfl
def growS (p1 : Int) : Option (Unit × tW × Unit) :=
 ((show Option (Unit × Int × Unit) from
 bif (decide (p1 < 0)) then
 none
 else
 some ((), p1, ())).bind fun y2 =>
 let v3 := (IntKind.i64.wrap (y2.2.1 - (IntKind.i64.wrap ((0 : Int) - 0))))
 bif (decide (v3 > 0)) then
 bif (inB (0 : Int) (0 : Int) 0) then
 bif (decide (0 ≤ v3) && roomOk (Int.toNat v3) 16) then
 bif (inB (0 : Int) (0 : Int) (List.replicate (Int.toNat v3) ([] : List UInt8)).length) then
 some ((), ((((List.replicate (Int.toNat v3) ([] : List UInt8))).drop (0 : Int).toNat).take ((0 : Int) - 0).toNat), ())
 else none
 else none
 else none
 else
 some ((), ([] : tW), ()))
def growS_c : Ctr := ⟨[.ro .nils, .ro yi64], [.own (.vec .str)], fun v => growS v.2.1⟩
def growS_h : zH := fun i => if i = 1010003 then zC [zN [(0, .nils), (1, yi64)]] else none
theorem growS_eq : EqB growS_c [] growS_h 27 Tryz.f75 [4] [] := fun v => by kernel_rfl
def concatS_s3 (a0 : List tW) (a3 : Int) (a9 : List tW) (a10 : Int) (a11 : Int) : Option ((List tW × Int × List tW × Int × Int × Unit) ⊕ (List tW × Int × Unit)) :=
 bif (decide (a11 < a10)) then
 ((lk a9 a11).bind fun x4 =>
 let v5 := (decide ((IntKind.i64.wrap (a3 + (x4.length : Int))) < 0))
 bif v5 then
 none
 else
 some (.inl (a0, (IntKind.i64.wrap (a3 + (x4.length : Int))), a9, a10, (IntKind.i64.wrap (a11 + 1)), ())))
 else
 some (.inr (a0, a3, ()))
def concatS_s10 (a6 : tW) (a25 : List tW) (a26 : Int) (a27 : Int) : Option ((tW × List tW × Int × Int × Unit) ⊕ (tW × Unit)) :=
 bif (decide (a27 < a26)) then
 ((lk a25 a27).bind fun x11 =>
 bif (roomOk (a6.length + x11.length) 16) then
 some (.inl ((a6 ++ x11), a25, a26, (IntKind.i64.wrap (a27 + 1)), ()))
 else none)
 else
 some (.inr (a6, ()))
def concatS (p0 : List tW) : Option (Unit × tW × Unit) :=
 ((show Option (List tW × Int × Unit) from
 ((iterN (fun x => concatS_s3 x.1 x.2.1 x.2.2.1 x.2.2.2.1 x.2.2.2.2.1) fuN (p0, (0 : Int), p0, (p0.length : Int), (0 : Int), ())).bind fun y6 =>
 some (y6.1, y6.2.1, ()))).bind fun y7 =>
 ((growS y7.2.1).bind fun r8 =>
 ((iterN (fun x => concatS_s10 x.1 x.2.1 x.2.2.1 x.2.2.2.1) fuN (r8.2.1, y7.1, (y7.1.length : Int), (0 : Int), ())).bind fun y12 =>
 some ((), y12.1, ()))))
def concatS_c : Ctr := ⟨[.ro (.slice s1)], [.own (.vec .str)], fun v => concatS v.1⟩
def concatS_h : zH := fun i => if i = 11 then zL [(6, .vec .str), (25, .slice s1), (26, yi64), (27, yi64)] [zX 2 [(6, .vec .str)]] else if i = 1020009 then zC [zN [(0, .slice s1), (3, yi64)]] else if i = 3 then zL [(0, .slice s1), (3, yi64), (9, .slice s1), (10, yi64), (11, yi64)] [zX 0 [(0, .slice s1), (3, yi64)]] else none
def concatS_g : zG := [(75, growS_c)]
theorem concatS_eq : EqB concatS_c concatS_g concatS_h 36 Tryz.f56 [2] [] := fun v => by kernel_rfl
def kU (p0 : Bool) (p1 : Bool) : Option (Unit × Bool × Unit) :=
 bif p0 then
 some ((), true, ())
 else
 some ((), p1, ())
def kU_c : Ctr := ⟨[.ro .bool, .ro .bool], [.val .bool], fun v => kU v.1 v.2.1⟩
theorem kU_eq : EqB kU_c [] h0 9 Tryz.f35 [4] [] := fun v => by kernel_rfl
def kM (p0 : Bool) (p1 : Bool) : Option (Unit × Bool × Unit) :=
 bif p0 then
 some ((), p1, ())
 else
 some ((), false, ())
def kM_c : Ctr := ⟨[.ro .bool, .ro .bool], [.val .bool], fun v => kM v.1 v.2.1⟩
theorem kM_eq : EqB kM_c [] h0 9 Tryz.f37 [4] [] := fun v => by kernel_rfl
def kD (p0 : Bool) (p1 : Bool) : Option (Unit × Bool × Unit) :=
 bif p0 then
 some ((), (!p1), ())
 else
 some ((), false, ())
def kD_c : Ctr := ⟨[.ro .bool, .ro .bool], [.val .bool], fun v => kD v.1 v.2.1⟩
theorem kD_eq : EqB kD_c [] h0 10 Tryz.f39 [4] [] := fun v => by kernel_rfl
def joinU_s9 (a4 : tS) (a5 : tS) (a8 : (Unit × Unit × Unit)) (a9 : tS) (a38 : tW) (a39 : Int) (a40 : Int) : Option ((tS × tS × (Unit × Unit × Unit) × tS × tW × Int × Int × Unit) ⊕ ((Unit × Unit × Unit) × tS × Unit)) :=
 bif (decide (a40 < a39)) then
 ((lk a38 a40).bind fun _x10 =>
 ((lk a38 a40).bind fun x11 =>
 ((sRead x11).bind fun r12 =>
 ((sHas a4 x11).bind fun r13 =>
 ((sHas a5 x11).bind fun r14 =>
 ((kU r13.2.1 r14.2.1).bind fun r15 =>
 ((rHas a9.2.1 r12.2.1).bind fun r16 =>
 bif (!(r15.2.1 == r16.2.1)) then
 bif (roomOk (a9.2.2.length + [x11].length) 16) then
 some (.inl (a4, a5, ((), (), ()), (a9.1, a9.2.1, (a9.2.2 ++ [x11])), a38, a39, (IntKind.i64.wrap (a40 + 1)), ()))
 else none
 else
 some (.inl (a4, a5, ((), (), ()), a9, a38, a39, (IntKind.i64.wrap (a40 + 1)), ())))))))))
 else
 some (.inr (((), (), ()), a9, ()))
def joinU (p0 : tS) (p1 : tS) : Option (Unit × tS × Unit) :=
 ((sNorm p0).bind fun r1 =>
 ((sNorm p1).bind fun r2 =>
 ((rUnion r1.2.1.1 r2.2.1.1).bind fun r3 =>
 ((rUnion r1.2.1.2.1 r2.2.1.2.1).bind fun r4 =>
 ((concatS [r1.2.1.2.2, r2.2.1.2.2]).bind fun r5 =>
 ((sOdd r5.2.1).bind fun r6 =>
 ((iterN (fun x => joinU_s9 x.1 x.2.1 x.2.2.1 x.2.2.2.1 x.2.2.2.2.1 x.2.2.2.2.2.1 x.2.2.2.2.2.2.1) fuN (r1.2.1, r2.2.1, ((), (), ()), (r3.2.1, r4.2.1, ([] : tW)), r6.2.1, (r6.2.1.length : Int), (0 : Int), ())).bind fun y17 =>
 some ((), y17.2.1, ()))))))))
def joinU_c : Ctr := ⟨[.ro y1, .ro y1, .ro (.clo 34 .unit), .ro (.clo 35 .unit)], [.own y2], fun v => joinU v.1 v.2.1⟩
def joinU_h : zH := fun i => if i = 4 then some ⟨⟨[(4, .bx (.st (.pair (.vec y0) (.pair (.vec y0) s1)))), (5, .bx (.st (.pair (.vec y0) (.pair (.vec y0) s1)))), (8, y3), (9, .bx y2), (38, .vec .str), (39, yi64), (40, yi64)], [(3, 35)], []⟩, [zX 0 [(8, y3), (9, .bx y2)]]⟩ else none
def joinU_g : zG := [(34, rUnion_c), (42, rHas_c), (41, sRead_c), (32, sOdd_c), (9, sNorm_c), (15, sHas_c), (56, concatS_c), (35, kU_c)]
theorem joinU_eq : EqB joinU_c joinU_g joinU_h 71 Tryz.f33 [71] [(8, 25)] := fun v => by kernel_rfl
def joinM_s9 (a4 : tS) (a5 : tS) (a8 : (Unit × Unit × Unit)) (a9 : tS) (a38 : tW) (a39 : Int) (a40 : Int) : Option ((tS × tS × (Unit × Unit × Unit) × tS × tW × Int × Int × Unit) ⊕ ((Unit × Unit × Unit) × tS × Unit)) :=
 bif (decide (a40 < a39)) then
 ((lk a38 a40).bind fun _x10 =>
 ((lk a38 a40).bind fun x11 =>
 ((sRead x11).bind fun r12 =>
 ((sHas a4 x11).bind fun r13 =>
 ((sHas a5 x11).bind fun r14 =>
 ((kM r13.2.1 r14.2.1).bind fun r15 =>
 ((rHas a9.2.1 r12.2.1).bind fun r16 =>
 bif (!(r15.2.1 == r16.2.1)) then
 bif (roomOk (a9.2.2.length + [x11].length) 16) then
 some (.inl (a4, a5, ((), (), ()), (a9.1, a9.2.1, (a9.2.2 ++ [x11])), a38, a39, (IntKind.i64.wrap (a40 + 1)), ()))
 else none
 else
 some (.inl (a4, a5, ((), (), ()), a9, a38, a39, (IntKind.i64.wrap (a40 + 1)), ())))))))))
 else
 some (.inr (((), (), ()), a9, ()))
def joinM (p0 : tS) (p1 : tS) : Option (Unit × tS × Unit) :=
 ((sNorm p0).bind fun r1 =>
 ((sNorm p1).bind fun r2 =>
 ((rMeet r1.2.1.1 r2.2.1.1).bind fun r3 =>
 ((rMeet r1.2.1.2.1 r2.2.1.2.1).bind fun r4 =>
 ((concatS [r1.2.1.2.2, r2.2.1.2.2]).bind fun r5 =>
 ((sOdd r5.2.1).bind fun r6 =>
 ((iterN (fun x => joinM_s9 x.1 x.2.1 x.2.2.1 x.2.2.2.1 x.2.2.2.2.1 x.2.2.2.2.2.1 x.2.2.2.2.2.2.1) fuN (r1.2.1, r2.2.1, ((), (), ()), (r3.2.1, r4.2.1, ([] : tW)), r6.2.1, (r6.2.1.length : Int), (0 : Int), ())).bind fun y17 =>
 some ((), y17.2.1, ()))))))))
def joinM_c : Ctr := ⟨[.ro y1, .ro y1, .ro (.clo 36 .unit), .ro (.clo 37 .unit)], [.own y2], fun v => joinM v.1 v.2.1⟩
def joinM_h : zH := fun i => if i = 4 then some ⟨⟨[(4, .bx (.st (.pair (.vec y0) (.pair (.vec y0) s1)))), (5, .bx (.st (.pair (.vec y0) (.pair (.vec y0) s1)))), (8, y3), (9, .bx y2), (38, .vec .str), (39, yi64), (40, yi64)], [(3, 37)], []⟩, [zX 0 [(8, y3), (9, .bx y2)]]⟩ else none
def joinM_g : zG := [(36, rMeet_c), (42, rHas_c), (41, sRead_c), (32, sOdd_c), (9, sNorm_c), (15, sHas_c), (56, concatS_c), (37, kM_c)]
theorem joinM_eq : EqB joinM_c joinM_g joinM_h 71 Tryz.f33 [71] [(8, 25)] := fun v => by kernel_rfl
def joinD_s9 (a4 : tS) (a5 : tS) (a8 : (Unit × Unit × Unit)) (a9 : tS) (a38 : tW) (a39 : Int) (a40 : Int) : Option ((tS × tS × (Unit × Unit × Unit) × tS × tW × Int × Int × Unit) ⊕ ((Unit × Unit × Unit) × tS × Unit)) :=
 bif (decide (a40 < a39)) then
 ((lk a38 a40).bind fun _x10 =>
 ((lk a38 a40).bind fun x11 =>
 ((sRead x11).bind fun r12 =>
 ((sHas a4 x11).bind fun r13 =>
 ((sHas a5 x11).bind fun r14 =>
 ((kD r13.2.1 r14.2.1).bind fun r15 =>
 ((rHas a9.2.1 r12.2.1).bind fun r16 =>
 bif (!(r15.2.1 == r16.2.1)) then
 bif (roomOk (a9.2.2.length + [x11].length) 16) then
 some (.inl (a4, a5, ((), (), ()), (a9.1, a9.2.1, (a9.2.2 ++ [x11])), a38, a39, (IntKind.i64.wrap (a40 + 1)), ()))
 else none
 else
 some (.inl (a4, a5, ((), (), ()), a9, a38, a39, (IntKind.i64.wrap (a40 + 1)), ())))))))))
 else
 some (.inr (((), (), ()), a9, ()))
def joinD (p0 : tS) (p1 : tS) : Option (Unit × tS × Unit) :=
 ((sNorm p0).bind fun r1 =>
 ((sNorm p1).bind fun r2 =>
 ((rMinus r1.2.1.1 r2.2.1.1).bind fun r3 =>
 ((rMinus r1.2.1.2.1 r2.2.1.2.1).bind fun r4 =>
 ((concatS [r1.2.1.2.2, r2.2.1.2.2]).bind fun r5 =>
 ((sOdd r5.2.1).bind fun r6 =>
 ((iterN (fun x => joinD_s9 x.1 x.2.1 x.2.2.1 x.2.2.2.1 x.2.2.2.2.1 x.2.2.2.2.2.1 x.2.2.2.2.2.2.1) fuN (r1.2.1, r2.2.1, ((), (), ()), (r3.2.1, r4.2.1, ([] : tW)), r6.2.1, (r6.2.1.length : Int), (0 : Int), ())).bind fun y17 =>
 some ((), y17.2.1, ()))))))))
def joinD_c : Ctr := ⟨[.ro y1, .ro y1, .ro (.clo 38 .unit), .ro (.clo 39 .unit)], [.own y2], fun v => joinD v.1 v.2.1⟩
def joinD_h : zH := fun i => if i = 4 then some ⟨⟨[(4, .bx (.st (.pair (.vec y0) (.pair (.vec y0) s1)))), (5, .bx (.st (.pair (.vec y0) (.pair (.vec y0) s1)))), (8, y3), (9, .bx y2), (38, .vec .str), (39, yi64), (40, yi64)], [(3, 39)], []⟩, [zX 0 [(8, y3), (9, .bx y2)]]⟩ else none
def joinD_g : zG := [(38, rMinus_c), (42, rHas_c), (41, sRead_c), (32, sOdd_c), (9, sNorm_c), (15, sHas_c), (56, concatS_c), (39, kD_c)]
theorem joinD_eq : EqB joinD_c joinD_g joinD_h 71 Tryz.f33 [71] [(8, 25)] := fun v => by kernel_rfl
def sUnion (p0 : tS) (p1 : tS) : Option (Unit × tS × Unit) :=
 ((joinU p0 p1).bind fun r1 =>
 some ((), r1.2.1, ()))
def sUnion_c : Ctr := ⟨[.ro y1, .ro y1], [.own y2], fun v => sUnion v.1 v.2.1⟩
def sUnion_g : zG := [(33, joinU_c), (33, joinM_c), (33, joinD_c)]
theorem sUnion_eq : EqB sUnion_c sUnion_g h0 8 Tryz.f10 [8] [(4, 25)] := fun v => by kernel_rfl
def sMeet (p0 : tS) (p1 : tS) : Option (Unit × tS × Unit) :=
 ((joinM p0 p1).bind fun r1 =>
 some ((), r1.2.1, ()))
def sMeet_c : Ctr := ⟨[.ro y1, .ro y1], [.own y2], fun v => sMeet v.1 v.2.1⟩
def sMeet_g : zG := [(33, joinU_c), (33, joinM_c), (33, joinD_c)]
theorem sMeet_eq : EqB sMeet_c sMeet_g h0 8 Tryz.f11 [8] [(4, 25)] := fun v => by kernel_rfl
def sMinus (p0 : tS) (p1 : tS) : Option (Unit × tS × Unit) :=
 ((joinD p0 p1).bind fun r1 =>
 some ((), r1.2.1, ()))
def sMinus_c : Ctr := ⟨[.ro y1, .ro y1], [.own y2], fun v => sMinus v.1 v.2.1⟩
def sMinus_g : zG := [(33, joinU_c), (33, joinM_c), (33, joinD_c)]
theorem sMinus_eq : EqB sMinus_c sMinus_g h0 8 Tryz.f12 [8] [(4, 25)] := fun v => by kernel_rfl
def sNot (p0 : tS) : Option (Unit × tS × Unit) :=
 ((sAll).bind fun r1 =>
 ((sMinus r1.2.1 p0).bind fun r2 =>
 some ((), r2.2.1, ())))
def sNot_c : Ctr := ⟨[.ro y1], [.own y2], fun v => sNot v.1⟩
def sNot_g : zG := [(21, sAll_c), (12, sMinus_c)]
theorem sNot_eq : EqB sNot_c sNot_g h0 6 Tryz.f13 [6] [(2, 25)] := fun v => by kernel_rfl
def sEqual (p0 : tS) (p1 : tS) : Option (Unit × Bool × Unit) :=
 ((sNorm p0).bind fun r1 =>
 ((sNorm p1).bind fun r2 =>
 ((sSame r1.2.1 r2.2.1).bind fun r3 =>
 some ((), r3.2.1, ()))))
def sEqual_c : Ctr := ⟨[.ro y1, .ro y1], [.val .bool], fun v => sEqual v.1 v.2.1⟩
def sEqual_g : zG := [(9, sNorm_c), (40, sSame_c)]
theorem sEqual_eq : EqB sEqual_c sEqual_g h0 10 Tryz.f19 [4] [] := fun v => by kernel_rfl
def sEmpty (p0 : tS) : Option (Unit × Bool × Unit) :=
 ((sEqual p0 (([] : tC), ([] : tC), ([] : tW))).bind fun r1 =>
 some ((), r1.2.1, ()))
def sEmpty_c : Ctr := ⟨[.ro y1], [.val .bool], fun v => sEmpty v.1⟩
def sEmpty_g : zG := [(19, sEqual_c)]
theorem sEmpty_eq : EqB sEmpty_c sEmpty_g h0 6 Tryz.f20 [2] [] := fun v => by kernel_rfl
def row1 (p0 : Int) : Option (Unit × List Int × Bool × Unit) :=
 bif (decide (p0 ≤ 127)) then
 some ((), ([] : List Int), true, ())
 else
 ((show Option (Int × Bool × Unit) from
 bif (decide (p0 ≥ 194)) then
 some (p0, (decide (p0 ≤ 223)), ())
 else
 some (p0, false, ())).bind fun y2 =>
 bif y2.2.1 then
 some ((), [(128 : Int), (191 : Int)], true, ())
 else
 bif (y2.1 == 224) then
 some ((), [(160 : Int), (191 : Int), (128 : Int), (191 : Int)], true, ())
 else
 bif (y2.1 == 237) then
 some ((), [(128 : Int), (159 : Int), (128 : Int), (191 : Int)], true, ())
 else
 ((show Option (Int × Bool × Unit) from
 bif (decide (y2.1 ≥ 225)) then
 some (y2.1, (decide (y2.1 ≤ 239)), ())
 else
 some (y2.1, false, ())).bind fun y4 =>
 bif y4.2.1 then
 some ((), [(128 : Int), (191 : Int), (128 : Int), (191 : Int)], true, ())
 else
 bif (y4.1 == 240) then
 some ((), [(144 : Int), (191 : Int), (128 : Int), (191 : Int), (128 : Int), (191 : Int)], true, ())
 else
 ((show Option (Int × Bool × Unit) from
 bif (decide (y4.1 ≥ 241)) then
 some (y4.1, (decide (y4.1 ≤ 243)), ())
 else
 some (y4.1, false, ())).bind fun y6 =>
 bif y6.2.1 then
 some ((), [(128 : Int), (191 : Int), (128 : Int), (191 : Int), (128 : Int), (191 : Int)], true, ())
 else
 bif (y6.1 == 244) then
 some ((), [(128 : Int), (143 : Int), (128 : Int), (191 : Int), (128 : Int), (191 : Int)], true, ())
 else
 some ((), ([] : List Int), false, ()))))
def row1_c : Ctr := ⟨[.ro yu8], [.val (.slice yu8), .val .bool], fun v => row1 v.1⟩
def row1_h : zH := fun i => if i = 1130014 then zC [zN [(0, yu8), (35, .bool)]] else if i = 1090010 then zC [zN [(0, yu8), (23, .bool)]] else if i = 1030004 then zC [zN [(0, yu8), (7, .bool)]] else none
theorem row1_eq : EqB row1_c [] row1_h 47 Tryz.f84 [2, 3] [] := fun v => by kernel_rfl
def at1_s7 (a0 : List Int) (a1 : Int) (a7 : List Int) (a9 : Int) : Option ((List Int × Int × List Int × Int × Unit) ⊕ (List Int × Int × List Int × Int × Unit)) :=
 ((show Option ((List Int × Int × List Int × Int × Unit) ⊕ (List Int × Int × List Int × Int × Unit)) from
 bif ((2 : Int) != 0) then
 let v9 := (decide (a9 ≤ (IntKind.i64.wrap (Int.tdiv (a7.length : Int) (2 : Int)))))
 bif v9 then
 bif (decide ((IntKind.i64.wrap (a1 + a9)) < (a0.length : Int))) then
 ((lk a0 (IntKind.i64.wrap (a1 + a9))).bind fun x10 =>
 let v11 := (IntKind.i64.wrap ((IntKind.i64.wrap ((2 : Int) * a9)) - 2))
 ((lk a7 v11).bind fun x12 =>
 bif (decide (x10 ≥ x12)) then
 ((lk a0 (IntKind.i64.wrap (a1 + a9))).bind fun x13 =>
 let v14 := (IntKind.i64.wrap ((IntKind.i64.wrap ((2 : Int) * a9)) - 1))
 ((lk a7 v14).bind fun x15 =>
 bif (decide (x13 ≤ x15)) then
 some (.inl (a0, a1, a7, a9, ()))
 else
 some (.inr (a0, a1, a7, a9, ()))))
 else
 some (.inr (a0, a1, a7, a9, ()))))
 else
 some (.inr (a0, a1, a7, a9, ()))
 else
 some (.inr (a0, a1, a7, a9, ()))
 else none).bind fun y16 =>
 (match y16 with
 | .inl y16 =>
 some (.inl (y16.1, y16.2.1, y16.2.2.1, (IntKind.i64.wrap (y16.2.2.2.1 + 1)), ()))
 | .inr y16 =>
 some (.inr (y16.1, y16.2.1, y16.2.2.1, y16.2.2.2.1, ()))))
def at1_s30 (a0 : List Int) (a1 : Int) (a9 : Int) (a10 : Int) (a11 : Int) : Option ((List Int × Int × Int × Int × Int × Unit) ⊕ (Int × Int × Unit)) :=
 ((show Option ((List Int × Int × Int × Int × Int × Unit) ⊕ (Int × Int × Unit)) from
 bif (decide (a11 < a9)) then
 some (.inl (a0, a1, a9, a10, a11, ()))
 else
 some (.inr (a9, a10, ()))).bind fun y32 =>
 (match y32 with
 | .inl y32 =>
 ((show Option (List Int × Int × Int × Int × Int × Unit) from
 ((lk y32.1 (IntKind.i64.wrap (y32.2.1 + y32.2.2.2.2.1))).bind fun x34 =>
 bif ((64 : Int) != 0) then
 let v35 := (IntKind.i32.wrap ((IntKind.i32.wrap (y32.2.2.2.1 * 64)) + (Int.tmod (IntKind.i32.wrap (x34)) (64 : Int))))
 some (y32.1, y32.2.1, y32.2.2.1, v35, y32.2.2.2.2.1, ())
 else none)).bind fun y36 =>
 some (.inl (y36.1, y36.2.1, y36.2.2.1, y36.2.2.2.1, (IntKind.i64.wrap (y36.2.2.2.2.1 + 1)), ())))
 | .inr y32 =>
 some (.inr (y32.1, y32.2.1, ()))))
def at1 (p0 : List Int) (p1 : Int) : Option (Unit × Int × Int × Bool × Unit) :=
 ((lk p0 p1).bind fun x1 =>
 ((row1 x1).bind fun r2 =>
 ((show Option ((Int × Int × Bool × Unit) ⊕ (List Int × Int × List Int × Unit)) from
 bif (!r2.2.2.1) then
 some (.inl ((65533 : Int), (1 : Int), false, ()))
 else
 some (.inr (p0, p1, r2.2.1, ()))).bind fun y4 =>
 (match y4 with
 | .inl y4 =>
 some ((), y4.1, y4.2.1, y4.2.2.1, ())
 | .inr y4 =>
 ((show Option (List Int × Int × List Int × Int × Unit) from
 ((iterN (fun x => at1_s7 x.1 x.2.1 x.2.2.1 x.2.2.2.1) fuN (y4.1, y4.2.1, y4.2.2.1, (1 : Int), ())).bind fun y17 =>
 some (y17.1, y17.2.1, y17.2.2.1, y17.2.2.2.1, ()))).bind fun y18 =>
 ((show Option ((Int × Int × Bool × Unit) ⊕ (List Int × Int × Int × Unit)) from
 bif ((2 : Int) != 0) then
 let v20 := (IntKind.i64.wrap (Int.tdiv (y18.2.2.1.length : Int) (2 : Int)))
 bif (decide (y18.2.2.2.1 ≤ v20)) then
 let v21 := ((IntKind.i64.wrap (y18.2.1 + y18.2.2.2.1)) == (y18.1.length : Int))
 some (.inl ((65533 : Int), y18.2.2.2.1, v21, ()))
 else
 some (.inr (y18.1, y18.2.1, y18.2.2.2.1, ()))
 else none).bind fun y22 =>
 (match y22 with
 | .inl y22 =>
 some ((), y22.1, y22.2.1, y22.2.2.1, ())
 | .inr y22 =>
 ((show Option ((Int × Int × Bool × Unit) ⊕ (List Int × Int × Int × Unit)) from
 bif (y22.2.2.1 == 1) then
 ((lk y22.1 y22.2.1).bind fun x24 =>
 some (.inl ((IntKind.i32.wrap (x24)), (1 : Int), false, ())))
 else
 some (.inr (y22.1, y22.2.1, y22.2.2.1, ()))).bind fun y25 =>
 (match y25 with
 | .inl y25 =>
 some ((), y25.1, y25.2.1, y25.2.2.1, ())
 | .inr y25 =>
 ((lk y25.1 y25.2.1).bind fun x26 =>
 bif (decide (0 ≤ (IntKind.i64.wrap ((7 : Int) - y25.2.2.1)))) then
 let v27 := (IntKind.i32.wrap ((1 : Int) * 2 ^ (min (IntKind.i64.wrap ((7 : Int) - y25.2.2.1)).toNat IntKind.i32.bits)))
 bif (v27 != 0) then
 ((show Option (Int × Int × Unit) from
 ((iterN (fun x => at1_s30 x.1 x.2.1 x.2.2.1 x.2.2.2.1 x.2.2.2.2.1) fuN (y25.1, y25.2.1, y25.2.2.1, (Int.tmod (IntKind.i32.wrap (x26)) v27), (1 : Int), ())).bind fun y37 =>
 some (y37.1, y37.2.1, ()))).bind fun y38 =>
 some ((), y38.2.1, y38.1, false, ()))
 else none
 else none))))))))))
def at1_c : Ctr := ⟨[.ro (.slice yu8), .ro yi64], [.val yi32, .val yi64, .val .bool], fun v => at1 v.1 v.2.1⟩
def at1_h : zH := fun i => if i = 1120016 then zC [zN [(9, yi64), (10, yi32)]] else if i = 13 then zL [(0, .slice yu8), (1, yi64), (9, yi64), (10, yi32), (11, yi64)] [zX 2 [(9, yi64), (10, yi32)]] else if i = 1150014 then zC [zN [(0, .slice yu8), (1, yi64), (9, yi64), (10, yi32), (11, yi64)]] else if i = 1130015 then zC [zN [(0, .slice yu8), (1, yi64), (9, yi64), (10, yi32), (11, yi64)], zX 2 [(9, yi64), (10, yi32)]] else if i = 1090011 then zC [zR [(4, yi32), (5, yi64), (6, .bool)], zN [(0, .slice yu8), (1, yi64), (9, yi64)]] else if i = 1070009 then zC [zR [(4, yi32), (5, yi64), (6, .bool)], zN [(0, .slice yu8), (1, yi64), (9, yi64)]] else if i = 1050007 then zC [zN [(0, .slice yu8), (1, yi64), (7, .slice yu8), (9, yi64)]] else if i = 5 then zL [(0, .slice yu8), (1, yi64), (7, .slice yu8), (9, yi64)] [zX 0 [(0, .slice yu8), (1, yi64), (7, .slice yu8), (9, yi64)]] else if i = 1050006 then zC [zN [(0, .slice yu8), (1, yi64), (7, .slice yu8), (9, yi64)], zX 0 [(0, .slice yu8), (1, yi64), (7, .slice yu8), (9, yi64)]] else if i = 1020004 then zC [zR [(4, yi32), (5, yi64), (6, .bool)], zN [(0, .slice yu8), (1, yi64), (7, .slice yu8)]] else none
def at1_g : zG := [(84, row1_c)]
theorem at1_eq : EqB at1_c at1_g at1_h 113 Tryz.f69 [4, 5, 6] [] := fun v => by kernel_rfl
def decode1_s2 (a0 : List Int) (a1 : Bool) (a5 : List (Int × Int × Int)) (a6 : Int) : Option ((List Int × Bool × List (Int × Int × Int) × Int × Unit) ⊕ ((List (Int × Int × Int) × Unit) ⊕ (List (Int × Int × Int) × Unit))) :=
 ((show Option ((List Int × Bool × List (Int × Int × Int) × Int × Unit) ⊕ (List (Int × Int × Int) × Unit)) from
 bif (decide (a6 < (a0.length : Int))) then
 some (.inl (a0, a1, a5, a6, ()))
 else
 some (.inr (a5, ()))).bind fun y4 =>
 (match y4 with
 | .inl y4 =>
 ((at1 y4.1 y4.2.2.2.1).bind fun r5 =>
 ((show Option ((List (Int × Int × Int) × Unit) ⊕ (List Int × Bool × List (Int × Int × Int) × Int × Int × Int × Unit)) from
 bif y4.2.1 then
 bif r5.2.2.2.1 then
 some (.inl (y4.2.2.1, ()))
 else
 some (.inr (y4.1, y4.2.1, y4.2.2.1, y4.2.2.2.1, r5.2.1, r5.2.2.1, ()))
 else
 some (.inr (y4.1, y4.2.1, y4.2.2.1, y4.2.2.2.1, r5.2.1, r5.2.2.1, ()))).bind fun y7 =>
 (match y7 with
 | .inl y7 =>
 some (.inr (.inl (y7.1, ())))
 | .inr y7 =>
 bif (roomOk (y7.2.2.1.length + [(y7.2.2.2.2.1, y7.2.2.2.1, y7.2.2.2.2.2.1)].length) 24) then
 some (.inl (y7.1, y7.2.1, (y7.2.2.1 ++ [(y7.2.2.2.2.1, y7.2.2.2.1, y7.2.2.2.2.2.1)]), (IntKind.i64.wrap (y7.2.2.2.1 + y7.2.2.2.2.2.1)), ()))
 else none)))
 | .inr y4 =>
 some (.inr (.inr (y4.1, ())))))
def decode1 (p0 : List Int) (p1 : Bool) : Option (Unit × List (Int × Int × Int) × Unit) :=
 ((iterN (fun x => decode1_s2 x.1 x.2.1 x.2.2.1 x.2.2.2.1) fuN (p0, p1, ([] : List (Int × Int × Int)), (0 : Int), ())).bind fun y8 =>
 (match y8 with
 | .inl y8 =>
 some ((), y8.1, ())
 | .inr y8 =>
 some ((), y8.1, ())))
def decode1_c : Ctr := ⟨[.ro (.slice yu8), .ro .bool], [.val (.slice y4)], fun v => decode1 v.1 v.2.1⟩
def decode1_h : zH := fun i => if i = 3 then zL [(0, .slice yu8), (1, .bool), (5, .vec y4), (6, yi64)] [zR [(4, .vec y4)], zX 0 [(5, .vec y4)]] else if i = 1050007 then zC [zR [(4, .vec y4)], zN [(0, .slice yu8), (1, .bool), (5, .vec y4), (6, yi64), (7, yi32), (8, yi64)]] else if i = 1030004 then zC [zN [(0, .slice yu8), (1, .bool), (5, .vec y4), (6, yi64)], zX 0 [(5, .vec y4)]] else none
def decode1_g : zG := [(69, at1_c)]
theorem decode1_eq : EqB decode1_c decode1_g decode1_h 37 Tryz.f49 [4] [] := fun v => by kernel_rfl
def runes1_s3 (a3 : List Int) (a4 : List (Int × Int × Int)) (a5 : Int) : Option ((List Int × List (Int × Int × Int) × Int × Unit) ⊕ (List Int × Unit)) :=
 ((show Option ((List Int × List (Int × Int × Int) × Int × Unit) ⊕ (List Int × Unit)) from
 bif (decide (a5 < (a4.length : Int))) then
 some (.inl (a3, a4, a5, ()))
 else
 some (.inr (a3, ()))).bind fun y5 =>
 (match y5 with
 | .inl y5 =>
 ((show Option (List Int × List (Int × Int × Int) × Int × Unit) from
 ((lk y5.2.1 y5.2.2.1).bind fun x7 =>
 bif (roomOk (y5.1.length + [x7.1].length) 4) then
 some ((y5.1 ++ [x7.1]), y5.2.1, y5.2.2.1, ())
 else none)).bind fun y8 =>
 some (.inl (y8.1, y8.2.1, (IntKind.i64.wrap (y8.2.2.1 + 1)), ())))
 | .inr y5 =>
 some (.inr (y5.1, ()))))
def runes1 (p0 : List Int) : Option (Unit × List Int × Unit) :=
 ((decode1 p0 false).bind fun r1 =>
 ((iterN (fun x => runes1_s3 x.1 x.2.1 x.2.2.1) fuN (([] : List Int), r1.2.1, (0 : Int), ())).bind fun y9 =>
 some ((), y9.1, ())))
def runes1_c : Ctr := ⟨[.ro (.slice yu8)], [.own (.vec yi32)], fun v => runes1 v.1⟩
def runes1_h : zH := fun i => if i = 4 then zL [(3, .vec yi32), (4, .slice y4), (5, yi64)] [zX 0 [(3, .vec yi32)]] else if i = 1060005 then zC [zN [(3, .vec yi32), (4, .slice y4), (5, yi64)]] else if i = 1040006 then zC [zN [(3, .vec yi32), (4, .slice y4), (5, yi64)], zX 0 [(3, .vec yi32)]] else none
def runes1_g : zG := [(49, decode1_c)]
theorem runes1_eq : EqB runes1_c runes1_g runes1_h 23 Tryz.f29 [2] [] := fun v => by kernel_rfl
def valid1 (p0 : Int) : Option (Unit × Bool × Unit) :=
 bif (decide (p0 ≥ 0)) then
 bif (decide (p0 < 1114112)) then
 bif (decide (p0 ≥ 55296)) then
 some ((), (!(decide (p0 < 57344))), ())
 else
 some ((), (!false), ())
 else
 some ((), false, ())
 else
 some ((), false, ())
def valid1_c : Ctr := ⟨[.ro yi32], [.val .bool], fun v => valid1 v.1⟩
theorem valid1_eq : EqB valid1_c [] h0 18 Tryz.f70 [2] [] := fun v => by kernel_rfl
def put1 (p0 : List Int) (p1 : Int) : Option (Unit × List Int × Unit) :=
 ((show Option (List Int × Int × Unit) from
 ((valid1 p1).bind fun r2 =>
 bif (!r2.2.1) then
 some (p0, (65533 : Int), ())
 else
 some (p0, p1, ()))).bind fun y3 =>
 ((show Option ((List Int × Unit) ⊕ (List Int × Int × Unit)) from
 bif (decide (y3.2.1 < 128)) then
 bif (roomOk (y3.1.length + [(IntKind.u8.wrap (y3.2.1))].length) 1) then
 some (.inl ((y3.1 ++ [(IntKind.u8.wrap (y3.2.1))]), ()))
 else none
 else
 some (.inr (y3.1, y3.2.1, ()))).bind fun y5 =>
 (match y5 with
 | .inl y5 =>
 some ((), y5.1, ())
 | .inr y5 =>
 ((show Option ((List Int × Unit) ⊕ (List Int × Int × Unit)) from
 bif (decide (y5.2.1 < 2048)) then
 bif ((64 : Int) != 0) then
 let v7 := (IntKind.i32.wrap ((192 : Int) + (IntKind.i32.wrap (Int.tdiv y5.2.1 (64 : Int)))))
 bif ((64 : Int) != 0) then
 let v8 := (IntKind.i32.wrap ((128 : Int) + (Int.tmod y5.2.1 (64 : Int))))
 bif (roomOk (y5.1.length + [(IntKind.u8.wrap (v7)), (IntKind.u8.wrap (v8))].length) 1) then
 some (.inl ((y5.1 ++ [(IntKind.u8.wrap (v7)), (IntKind.u8.wrap (v8))]), ()))
 else none
 else none
 else none
 else
 some (.inr (y5.1, y5.2.1, ()))).bind fun y9 =>
 (match y9 with
 | .inl y9 =>
 some ((), y9.1, ())
 | .inr y9 =>
 ((show Option ((List Int × Unit) ⊕ (List Int × Int × Unit)) from
 bif (decide (y9.2.1 < 65536)) then
 bif ((4096 : Int) != 0) then
 let v11 := (IntKind.i32.wrap ((224 : Int) + (IntKind.i32.wrap (Int.tdiv y9.2.1 (4096 : Int)))))
 bif ((64 : Int) != 0) then
 bif ((64 : Int) != 0) then
 let v12 := (Int.tmod (IntKind.i32.wrap (Int.tdiv y9.2.1 (64 : Int))) (64 : Int))
 bif ((64 : Int) != 0) then
 let v13 := (IntKind.i32.wrap ((128 : Int) + (Int.tmod y9.2.1 (64 : Int))))
 bif (roomOk (y9.1.length + [(IntKind.u8.wrap (v11)), (IntKind.u8.wrap ((IntKind.i32.wrap ((128 : Int) + v12)))), (IntKind.u8.wrap (v13))].length) 1) then
 let l14 := (y9.1 ++ [(IntKind.u8.wrap (v11)), (IntKind.u8.wrap ((IntKind.i32.wrap ((128 : Int) + v12)))), (IntKind.u8.wrap (v13))])
 some (.inl (l14, ()))
 else none
 else none
 else none
 else none
 else none
 else
 some (.inr (y9.1, y9.2.1, ()))).bind fun y15 =>
 (match y15 with
 | .inl y15 =>
 some ((), y15.1, ())
 | .inr y15 =>
 bif ((262144 : Int) != 0) then
 let v16 := (IntKind.i32.wrap ((240 : Int) + (IntKind.i32.wrap (Int.tdiv y15.2.1 (262144 : Int)))))
 bif ((4096 : Int) != 0) then
 bif ((64 : Int) != 0) then
 let v17 := (Int.tmod (IntKind.i32.wrap (Int.tdiv y15.2.1 (4096 : Int))) (64 : Int))
 bif ((64 : Int) != 0) then
 bif ((64 : Int) != 0) then
 let v18 := (Int.tmod (IntKind.i32.wrap (Int.tdiv y15.2.1 (64 : Int))) (64 : Int))
 bif ((64 : Int) != 0) then
 let v19 := (IntKind.i32.wrap ((128 : Int) + (Int.tmod y15.2.1 (64 : Int))))
 bif (roomOk (y15.1.length + [(IntKind.u8.wrap (v16)), (IntKind.u8.wrap ((IntKind.i32.wrap ((128 : Int) + v17)))), (IntKind.u8.wrap ((IntKind.i32.wrap ((128 : Int) + v18)))), (IntKind.u8.wrap (v19))].length) 1) then
 let l20 := (y15.1 ++ [(IntKind.u8.wrap (v16)), (IntKind.u8.wrap ((IntKind.i32.wrap ((128 : Int) + v17)))), (IntKind.u8.wrap ((IntKind.i32.wrap ((128 : Int) + v18)))), (IntKind.u8.wrap (v19))])
 some ((), l20, ())
 else none
 else none
 else none
 else none
 else none
 else none
 else none)))))))
def put1_c : Ctr := ⟨[.own (.vec yu8), .ro yi32], [.own (.vec yu8)], fun v => put1 v.1 v.2.1⟩
def put1_h : zH := fun i => if i = 1070009 then zC [zR [(4, .vec yu8)], zN [(0, .vec yu8), (1, yi32)]] else if i = 1050007 then zC [zR [(4, .vec yu8)], zN [(0, .vec yu8), (1, yi32)]] else if i = 1030005 then zC [zR [(4, .vec yu8)], zN [(0, .vec yu8), (1, yi32)]] else if i = 1010003 then zC [zN [(0, .vec yu8), (1, yi32)]] else none
def put1_g : zG := [(70, valid1_c)]
theorem put1_eq : EqB put1_c put1_g put1_h 67 Tryz.f50 [4] [] := fun v => by kernel_rfl
def encode1_s2 (a0 : List Int) (a3 : List Int) (a4 : Int) : Option ((List Int × List Int × Int × Unit) ⊕ (List Int × Unit)) :=
 ((show Option ((List Int × List Int × Int × Unit) ⊕ (List Int × Unit)) from
 bif (decide (a4 < (a0.length : Int))) then
 some (.inl (a0, a3, a4, ()))
 else
 some (.inr (a3, ()))).bind fun y4 =>
 (match y4 with
 | .inl y4 =>
 ((show Option (List Int × List Int × Int × Unit) from
 ((lk y4.1 y4.2.2.1).bind fun x6 =>
 ((put1 y4.2.1 x6).bind fun r7 =>
 some (y4.1, r7.2.1, y4.2.2.1, ())))).bind fun y8 =>
 some (.inl (y8.1, y8.2.1, (IntKind.i64.wrap (y8.2.2.1 + 1)), ())))
 | .inr y4 =>
 some (.inr (y4.1, ()))))
def encode1 (p0 : List Int) : Option (Unit × List Int × Unit) :=
 ((iterN (fun x => encode1_s2 x.1 x.2.1 x.2.2.1) fuN (p0, ([] : List Int), (0 : Int), ())).bind fun y9 =>
 some ((), y9.1, ()))
def encode1_c : Ctr := ⟨[.ro (.slice yi32)], [.own (.vec yu8)], fun v => encode1 v.1⟩
def encode1_h : zH := fun i => if i = 3 then zL [(0, .slice yi32), (3, .vec yu8), (4, yi64)] [zX 0 [(3, .vec yu8)]] else if i = 1050004 then zC [zN [(0, .slice yi32), (3, .vec yu8), (4, yi64)]] else if i = 1030005 then zC [zN [(0, .slice yi32), (3, .vec yu8), (4, yi64)], zX 0 [(3, .vec yu8)]] else none
def encode1_g : zG := [(50, put1_c)]
theorem encode1_eq : EqB encode1_c encode1_g encode1_h 18 Tryz.f30 [2] [] := fun v => by kernel_rfl
def good6 (p0 : List UInt8) : Option (Unit × Bool × Unit) :=
 ((runes1 (u8s p0)).bind fun r1 =>
 ((encode1 r1.2.1).bind fun r2 =>
 some ((), ((s8u r2.2.1) == p0), ())))
def good6_c : Ctr := ⟨[.ro .str], [.val .bool], fun v => good6 v.1⟩
def good6_g : zG := [(29, runes1_c), (30, encode1_c)]
theorem good6_eq : EqB good6_c good6_g h0 10 Tryz.f16 [2] [] := fun v => by kernel_rfl
def sameTexts_s4 (a0 : tW) (a1 : tW) (a5 : Int) : Option ((tW × tW × Int × Unit) ⊕ ((Bool × Unit) ⊕ Unit)) :=
 ((show Option ((tW × tW × Int × Unit) ⊕ Unit) from
 bif (decide (a5 < (a0.length : Int))) then
 some (.inl (a0, a1, a5, ()))
 else
 some (.inr ())).bind fun y6 =>
 (match y6 with
 | .inl y6 =>
 ((show Option ((Bool × Unit) ⊕ (tW × tW × Int × Unit)) from
 ((lk y6.1 y6.2.2.1).bind fun x8 =>
 ((lk y6.2.1 y6.2.2.1).bind fun x9 =>
 bif (!(x8 == x9)) then
 some (.inl (false, ()))
 else
 some (.inr (y6.1, y6.2.1, y6.2.2.1, ()))))).bind fun y10 =>
 (match y10 with
 | .inl y10 =>
 some (.inr (.inl (y10.1, ())))
 | .inr y10 =>
 some (.inl (y10.1, y10.2.1, (IntKind.i64.wrap (y10.2.2.1 + 1)), ()))))
 | .inr y6 =>
 some (.inr (.inr ()))))
def sameTexts (p0 : tW) (p1 : tW) : Option (Unit × Bool × Unit) :=
 ((show Option ((Bool × Unit) ⊕ (tW × tW × Unit)) from
 bif ((p0.length : Int) != (p1.length : Int)) then
 some (.inl (false, ()))
 else
 some (.inr (p0, p1, ()))).bind fun y2 =>
 (match y2 with
 | .inl y2 =>
 some ((), y2.1, ())
 | .inr y2 =>
 ((iterN (fun x => sameTexts_s4 x.1 x.2.1 x.2.2.1) fuN (y2.1, y2.2.1, (0 : Int), ())).bind fun y11 =>
 (match y11 with
 | .inl y11 =>
 some ((), y11.1, ())
 | .inr y11 =>
 some ((), true, ())))))
def sameTexts_c : Ctr := ⟨[.ro s1, .ro s1], [.val .bool], fun v => sameTexts v.1 v.2.1⟩
def sameTexts_h : zH := fun i => if i = 4 then zL [(0, s1), (1, s1), (5, yi64)] [zR [(4, .bool)], zX 0 []] else if i = 1060005 then zC [zR [(4, .bool)], zN [(0, s1), (1, s1), (5, yi64)]] else if i = 1040006 then zC [zN [(0, s1), (1, s1), (5, yi64)], zX 0 []] else if i = 1010003 then zC [zR [(4, .bool)], zN [(0, s1), (1, s1)]] else none
theorem sameTexts_eq : EqB sameTexts_c [] sameTexts_h 26 Tryz.f45 [4] [] := fun v => by kernel_rfl
def same6 (p0 : tS) (p1 : tS) : Option (Unit × Bool × Unit) :=
 ((refSame p0.1 p1.1).bind fun r1 =>
 bif r1.2.1 then
 ((refSame p0.2.1 p1.2.1).bind fun r2 =>
 bif r2.2.1 then
 ((sameTexts p0.2.2 p1.2.2).bind fun r3 =>
 some ((), r3.2.1, ()))
 else
 some ((), false, ()))
 else
 some ((), false, ()))
def same6_c : Ctr := ⟨[.ro y1, .ro y1], [.val .bool], fun v => same6 v.1 v.2.1⟩
def same6_g : zG := [(24, refSame_c), (45, sameTexts_c)]
theorem same6_eq : EqB same6_c same6_g h0 24 Tryz.f18 [4] [] := fun v => by kernel_rfl
def put6_s3 (a0 : tW) (a1 : List UInt8) (a5 : Int) : Option ((tW × List UInt8 × Int × Unit) ⊕ (tW × List UInt8 × Int × Unit)) :=
 ((show Option ((tW × List UInt8 × Int × Unit) ⊕ (tW × List UInt8 × Int × Unit)) from
 bif (decide (a5 < (a0.length : Int))) then
 ((lk a0 a5).bind fun _x5 =>
 ((lk a0 a5).bind fun x6 =>
 bif (Op.bytesLess x6 a1) then
 some (.inl (a0, a1, a5, ()))
 else
 some (.inr (a0, a1, a5, ()))))
 else
 some (.inr (a0, a1, a5, ()))).bind fun y7 =>
 (match y7 with
 | .inl y7 =>
 some (.inl (y7.1, y7.2.1, (IntKind.i64.wrap (y7.2.2.1 + 1)), ()))
 | .inr y7 =>
 some (.inr (y7.1, y7.2.1, y7.2.2.1, ()))))
def put6_s16 (a0 : tW) (a1 : List UInt8) (a5 : Int) (a6 : Int) : Option ((tW × List UInt8 × Int × Int × Unit) ⊕ (tW × Unit)) :=
 ((show Option ((tW × List UInt8 × Int × Int × Unit) ⊕ (tW × Unit)) from
 bif (decide (a6 > a5)) then
 some (.inl (a0, a1, a5, a6, ()))
 else
 some (.inr (a0, ()))).bind fun y18 =>
 (match y18 with
 | .inl y18 =>
 ((show Option (tW × List UInt8 × Int × Int × Unit) from
 ((lk y18.1 (IntKind.i64.wrap (y18.2.2.2.1 - 1))).bind fun _x20 =>
 ((lk y18.1 (IntKind.i64.wrap (y18.2.2.2.1 - 1))).bind fun x21 =>
 ((lk y18.1 y18.2.2.2.1).bind fun _x22 =>
 ((lk y18.1 y18.2.2.2.1).bind fun x23 =>
 ((lk (y18.1.set y18.2.2.2.1.toNat x21) (IntKind.i64.wrap (y18.2.2.2.1 - 1))).bind fun _x24 =>
 ((lk (y18.1.set y18.2.2.2.1.toNat x21) (IntKind.i64.wrap (y18.2.2.2.1 - 1))).bind fun x25 =>
 let l26 := ((y18.1.set y18.2.2.2.1.toNat x21).set (IntKind.i64.wrap (y18.2.2.2.1 - 1)).toNat y18.2.1)
 some (l26, y18.2.1, y18.2.2.1, y18.2.2.2.1, ())))))))).bind fun y27 =>
 some (.inl (y27.1, y27.2.1, y27.2.2.1, (IntKind.i64.wrap (y27.2.2.2.1 - 1)), ())))
 | .inr y18 =>
 some (.inr (y18.1, ()))))
def put6 (p0 : tW) (p1 : List UInt8) : Option (Unit × tW × Unit) :=
 ((show Option (tW × List UInt8 × Int × Unit) from
 ((iterN (fun x => put6_s3 x.1 x.2.1 x.2.2.1) fuN (p0, p1, (0 : Int), ())).bind fun y8 =>
 some (y8.1, y8.2.1, y8.2.2.1, ()))).bind fun y9 =>
 ((show Option ((tW × Unit) ⊕ (tW × List UInt8 × Int × Unit)) from
 bif (decide (y9.2.2.1 < (y9.1.length : Int))) then
 ((lk y9.1 y9.2.2.1).bind fun _x11 =>
 ((lk y9.1 y9.2.2.1).bind fun x12 =>
 bif (x12 == y9.2.1) then
 some (.inl (y9.1, ()))
 else
 some (.inr (y9.1, y9.2.1, y9.2.2.1, ()))))
 else
 some (.inr (y9.1, y9.2.1, y9.2.2.1, ()))).bind fun y13 =>
 (match y13 with
 | .inl y13 =>
 some ((), y13.1, ())
 | .inr y13 =>
 bif (roomOk (y13.1.length + [y13.2.1].length) 16) then
 let v14 := (IntKind.i64.wrap (((y13.1 ++ [y13.2.1]).length : Int) - 1))
 ((iterN (fun x => put6_s16 x.1 x.2.1 x.2.2.1 x.2.2.2.1) fuN ((y13.1 ++ [y13.2.1]), y13.2.1, y13.2.2.1, v14, ())).bind fun y28 =>
 some ((), y28.1, ()))
 else none)))
def put6_c : Ctr := ⟨[.own (.vec .str), .ro .str], [.own (.vec .str)], fun v => put6 v.1 v.2.1⟩
def put6_h : zH := fun i => if i = 8 then zL [(0, .vec .str), (1, .str), (5, yi64), (6, yi64)] [zX 2 [(0, .vec .str)]] else if i = 1100009 then zC [zN [(0, .vec .str), (1, .str), (5, yi64), (6, yi64)]] else if i = 1080010 then zC [zN [(0, .vec .str), (1, .str), (5, yi64), (6, yi64)], zX 2 [(0, .vec .str)]] else if i = 1040006 then zC [zR [(4, .vec .str)], zN [(0, .vec .str), (1, .str), (5, yi64)]] else if i = 1020004 then zC [zN [(0, .vec .str), (1, .str), (5, yi64)]] else if i = 2 then zL [(0, .vec .str), (1, .str), (5, yi64)] [zX 0 [(0, .vec .str), (1, .str), (5, yi64)]] else if i = 1020003 then zC [zN [(0, .vec .str), (1, .str), (5, yi64)], zX 0 [(0, .vec .str), (1, .str), (5, yi64)]] else none
theorem put6_eq : EqB put6_c [] put6_h 60 Tryz.f68 [4] [] := fun v => by kernel_rfl
def odd6_s2 (a0 : tW) (a3 : tW) (a4 : Int) : Option ((tW × tW × Int × Unit) ⊕ (tW × Unit)) :=
 ((show Option ((tW × tW × Int × Unit) ⊕ (tW × Unit)) from
 bif (decide (a4 < (a0.length : Int))) then
 some (.inl (a0, a3, a4, ()))
 else
 some (.inr (a3, ()))).bind fun y4 =>
 (match y4 with
 | .inl y4 =>
 ((show Option (tW × tW × Int × Unit) from
 ((show Option (tW × tW × Int × Bool × Unit) from
 ((lk y4.1 y4.2.2.1).bind fun x7 =>
 ((good6 x7).bind fun r8 =>
 bif r8.2.1 then
 ((lk y4.1 y4.2.2.1).bind fun x9 =>
 ((runes1 (u8s x9)).bind fun r10 =>
 some (y4.1, y4.2.1, y4.2.2.1, (decide ((r10.2.1.length : Int) > 1)), ())))
 else
 some (y4.1, y4.2.1, y4.2.2.1, false, ())))).bind fun y11 =>
 bif y11.2.2.2.1 then
 ((lk y11.1 y11.2.2.1).bind fun x12 =>
 ((put6 y11.2.1 x12).bind fun r13 =>
 some (y11.1, r13.2.1, y11.2.2.1, ())))
 else
 some (y11.1, y11.2.1, y11.2.2.1, ()))).bind fun y14 =>
 some (.inl (y14.1, y14.2.1, (IntKind.i64.wrap (y14.2.2.1 + 1)), ())))
 | .inr y4 =>
 some (.inr (y4.1, ()))))
def odd6 (p0 : tW) : Option (Unit × tW × Unit) :=
 ((iterN (fun x => odd6_s2 x.1 x.2.1 x.2.2.1) fuN (p0, ([] : tW), (0 : Int), ())).bind fun y15 =>
 some ((), y15.1, ()))
def odd6_c : Ctr := ⟨[.ro s1], [.own (.vec .str)], fun v => odd6 v.1⟩
def odd6_h : zH := fun i => if i = 3 then zL [(0, s1), (3, .vec .str), (4, yi64)] [zX 0 [(3, .vec .str)]] else if i = 1050004 then zC [zN [(0, s1), (3, .vec .str), (4, yi64)]] else if i = 1050006 then zC [zN [(0, s1), (3, .vec .str), (4, yi64), (25, .bool)]] else if i = 1030005 then zC [zN [(0, s1), (3, .vec .str), (4, yi64)], zX 0 [(3, .vec .str)]] else none
def odd6_g : zG := [(29, runes1_c), (16, good6_c), (68, put6_c)]
theorem odd6_eq : EqB odd6_c odd6_g odd6_h 33 Tryz.f48 [2] [] := fun v => by kernel_rfl
def norm6 (p0 : tS) : Option (Unit × tS × Unit) :=
 ((refNorm p0.1).bind fun r1 =>
 ((refNorm p0.2.1).bind fun r2 =>
 ((odd6 p0.2.2).bind fun r3 =>
 some ((), (r1.2.1, r2.2.1, r3.2.1), ()))))
def norm6_c : Ctr := ⟨[.ro y1], [.own y2], fun v => norm6 v.1⟩
def norm6_g : zG := [(25, refNorm_c), (48, odd6_c)]
theorem norm6_eq : EqB norm6_c norm6_g h0 13 Tryz.f26 [13] [(2, 25)] := fun v => by kernel_rfl
def copy6_s4 (a1 : tS) (a2 : (Unit × Unit × Unit)) (a3 : (tC × Unit × Unit)) (a4 : Int) : Option ((tS × (Unit × Unit × Unit) × (tC × Unit × Unit) × Int × Unit) ⊕ (tS × (Unit × Unit × Unit) × (tC × Unit × Unit) × Unit)) :=
 ((show Option ((tS × (Unit × Unit × Unit) × (tC × Unit × Unit) × Int × Unit) ⊕ (tS × (Unit × Unit × Unit) × (tC × Unit × Unit) × Unit)) from
 bif (decide (a4 < (a1.1.length : Int))) then
 some (.inl (a1, ((), (), ()), (a3.1, (), ()), a4, ()))
 else
 some (.inr (a1, ((), (), ()), (a3.1, (), ()), ()))).bind fun y6 =>
 (match y6 with
 | .inl y6 =>
 ((show Option (tS × (Unit × Unit × Unit) × (tC × Unit × Unit) × Int × Unit) from
 ((lk y6.1.1 y6.2.2.2.1).bind fun x8 =>
 bif (roomOk (y6.2.2.1.1.length + [x8].length) 8) then
 some (y6.1, ((), (), ()), ((y6.2.2.1.1 ++ [x8]), (), ()), y6.2.2.2.1, ())
 else none)).bind fun y9 =>
 some (.inl (y9.1, ((), (), ()), (y9.2.2.1.1, (), ()), (IntKind.i64.wrap (y9.2.2.2.1 + 1)), ())))
 | .inr y6 =>
 some (.inr (y6.1, ((), (), ()), (y6.2.2.1.1, (), ()), ()))))
def copy6_s15 (a1 : tS) (a2 : (Unit × Unit × Unit)) (a3 : (tC × tC × Unit)) (a5 : Int) : Option ((tS × (Unit × Unit × Unit) × (tC × tC × Unit) × Int × Unit) ⊕ (tS × (Unit × Unit × Unit) × (tC × tC × Unit) × Unit)) :=
 ((show Option ((tS × (Unit × Unit × Unit) × (tC × tC × Unit) × Int × Unit) ⊕ (tS × (Unit × Unit × Unit) × (tC × tC × Unit) × Unit)) from
 bif (decide (a5 < (a1.2.1.length : Int))) then
 some (.inl (a1, ((), (), ()), (a3.1, a3.2.1, ()), a5, ()))
 else
 some (.inr (a1, ((), (), ()), (a3.1, a3.2.1, ()), ()))).bind fun y17 =>
 (match y17 with
 | .inl y17 =>
 ((show Option (tS × (Unit × Unit × Unit) × (tC × tC × Unit) × Int × Unit) from
 ((lk y17.1.2.1 y17.2.2.2.1).bind fun x19 =>
 bif (roomOk (y17.2.2.1.2.1.length + [x19].length) 8) then
 some (y17.1, ((), (), ()), (y17.2.2.1.1, (y17.2.2.1.2.1 ++ [x19]), ()), y17.2.2.2.1, ())
 else none)).bind fun y20 =>
 some (.inl (y20.1, ((), (), ()), (y20.2.2.1.1, y20.2.2.1.2.1, ()), (IntKind.i64.wrap (y20.2.2.2.1 + 1)), ())))
 | .inr y17 =>
 some (.inr (y17.1, ((), (), ()), (y17.2.2.1.1, y17.2.2.1.2.1, ()), ()))))
def copy6_s25 (a1 : tS) (a2 : (Unit × Unit × Unit)) (a3 : tS) (a6 : Int) : Option ((tS × (Unit × Unit × Unit) × tS × Int × Unit) ⊕ ((Unit × Unit × Unit) × tS × Unit)) :=
 ((show Option ((tS × (Unit × Unit × Unit) × tS × Int × Unit) ⊕ ((Unit × Unit × Unit) × tS × Unit)) from
 bif (decide (a6 < (a1.2.2.length : Int))) then
 some (.inl (a1, ((), (), ()), a3, a6, ()))
 else
 some (.inr (((), (), ()), a3, ()))).bind fun y27 =>
 (match y27 with
 | .inl y27 =>
 ((show Option (tS × (Unit × Unit × Unit) × tS × Int × Unit) from
 ((lk y27.1.2.2 y27.2.2.2.1).bind fun x29 =>
 bif (roomOk (y27.2.2.1.2.2.length + [x29].length) 16) then
 some (y27.1, ((), (), ()), (y27.2.2.1.1, y27.2.2.1.2.1, (y27.2.2.1.2.2 ++ [x29])), y27.2.2.2.1, ())
 else none)).bind fun y30 =>
 some (.inl (y30.1, ((), (), ()), y30.2.2.1, (IntKind.i64.wrap (y30.2.2.2.1 + 1)), ())))
 | .inr y27 =>
 some (.inr (((), (), ()), y27.2.1, ()))))
def copy6 (p0 : tS) : Option (Unit × tS × Unit) :=
 ((show Option (tS × (Unit × Unit × Unit) × (tC × Unit × Unit) × Unit) from
 ((iterN (fun x => copy6_s4 x.1 x.2.1 x.2.2.1 x.2.2.2.1) fuN (p0, ((), (), ()), (([] : tC), (), ()), (0 : Int), ())).bind fun y10 =>
 some (y10.1, ((), (), ()), (y10.2.2.1.1, (), ()), ()))).bind fun y11 =>
 ((show Option (tS × (Unit × Unit × Unit) × (tC × tC × Unit) × Unit) from
 ((iterN (fun x => copy6_s15 x.1 x.2.1 x.2.2.1 x.2.2.2.1) fuN (y11.1, ((), (), ()), (y11.2.2.1.1, ([] : tC), ()), (0 : Int), ())).bind fun y21 =>
 some (y21.1, ((), (), ()), (y21.2.2.1.1, y21.2.2.1.2.1, ()), ()))).bind fun y22 =>
 ((iterN (fun x => copy6_s25 x.1 x.2.1 x.2.2.1 x.2.2.2.1) fuN (y22.1, ((), (), ()), (y22.2.2.1.1, y22.2.2.1.2.1, ([] : tW)), (0 : Int), ())).bind fun y31 =>
 some ((), y31.2.1, ()))))
def copy6_c : Ctr := ⟨[.ro y1], [.own y2], fun v => copy6 v.1⟩
def copy6_h : zH := fun i => if i = 11 then zL [(1, .bx y1), (2, y3), (3, .bx y2), (6, yi64)] [zX 4 [(2, y3), (3, .bx y2)]] else if i = 1130012 then zC [zN [(1, .bx y1), (2, y3), (3, .bx y2), (6, yi64)]] else if i = 1110013 then zC [zN [(1, .bx y1), (2, y3), (3, .bx y2), (6, yi64)], zX 4 [(2, y3), (3, .bx y2)]] else if i = 1060010 then zC [zN [(1, .bx y1), (2, y3), (3, .bx (.st (.pair (.vec y0) (.pair (.vec y0) .nils))))]] else if i = 7 then zL [(1, .bx y1), (2, y3), (3, .bx (.st (.pair (.vec y0) (.pair (.vec y0) .nils)))), (5, yi64)] [zX 2 [(1, .bx y1), (2, y3), (3, .bx (.st (.pair (.vec y0) (.pair (.vec y0) .nils))))]] else if i = 1090008 then zC [zN [(1, .bx y1), (2, y3), (3, .bx (.st (.pair (.vec y0) (.pair (.vec y0) .nils)))), (5, yi64)]] else if i = 1070009 then zC [zN [(1, .bx y1), (2, y3), (3, .bx (.st (.pair (.vec y0) (.pair (.vec y0) .nils)))), (5, yi64)], zX 2 [(1, .bx y1), (2, y3), (3, .bx (.st (.pair (.vec y0) (.pair (.vec y0) .nils))))]] else if i = 1020006 then zC [zN [(1, .bx y1), (2, y3), (3, .bx (.st (.pair (.vec y0) (.pair .nils .nils))))]] else if i = 3 then zL [(1, .bx y1), (2, y3), (3, .bx (.st (.pair (.vec y0) (.pair .nils .nils)))), (4, yi64)] [zX 0 [(1, .bx y1), (2, y3), (3, .bx (.st (.pair (.vec y0) (.pair .nils .nils))))]] else if i = 1050004 then zC [zN [(1, .bx y1), (2, y3), (3, .bx (.st (.pair (.vec y0) (.pair .nils .nils)))), (4, yi64)]] else if i = 1030005 then zC [zN [(1, .bx y1), (2, y3), (3, .bx (.st (.pair (.vec y0) (.pair .nils .nils)))), (4, yi64)], zX 0 [(1, .bx y1), (2, y3), (3, .bx (.st (.pair (.vec y0) (.pair .nils .nils))))]] else none
theorem copy6_eq : EqB copy6_c [] copy6_h 59 Tryz.f22 [59] [(2, 25)] := fun v => by kernel_rfl
def fixed : Option (Unit × Bool × Unit) :=
 ((sOf ([101, 204, 129] : List UInt8)).bind fun r1 =>
 ((sFirst [((97 : Int), (122 : Int))]).bind fun r2 =>
 ((sNot r1.2.1).bind fun r3 =>
 ((sMinus r2.2.1 r1.2.1).bind fun r4 =>
 bif ((r1.2.1.2.2.length : Int) == 1) then
 ((sHas r2.2.1 ([101, 120] : List UInt8)).bind fun r5 =>
 bif r5.2.1 then
 ((sHas r2.2.1 ([69] : List UInt8)).bind fun r6 =>
 bif (!r6.2.1) then
 ((sHas r3.2.1 ([101, 204, 130] : List UInt8)).bind fun r7 =>
 bif r7.2.1 then
 ((sHas r3.2.1 ([101, 204, 129] : List UInt8)).bind fun r8 =>
 bif (!r8.2.1) then
 ((sHas r4.2.1 ([101] : List UInt8)).bind fun r9 =>
 bif r9.2.1 then
 ((sHas r4.2.1 ([101, 204, 129] : List UInt8)).bind fun r10 =>
 bif (!r10.2.1) then
 ((sAll).bind fun r11 =>
 ((sHas r11.2.1 ([] : List UInt8)).bind fun r12 =>
 bif (!r12.2.1) then
 ((sMay r3.2.1).bind fun r13 =>
 bif r13.2.1 then
 ((sNot r3.2.1).bind fun r14 =>
 ((sEqual r14.2.1 r1.2.1).bind fun r15 =>
 bif r15.2.1 then
 ((sEmpty (([] : tC), ([] : tC), ([] : tW))).bind fun r16 =>
 bif r16.2.1 then
 ((sEmpty r1.2.1).bind fun r17 =>
 bif (!r17.2.1) then
 ((sOnes [((97 : Int), (122 : Int))]).bind fun r18 =>
 ((sHas r18.2.1 ([97] : List UInt8)).bind fun r19 =>
 bif r19.2.1 then
 ((sUnion r1.2.1 r4.2.1).bind fun r20 =>
 ((sHas r20.2.1 ([101, 204, 129] : List UInt8)).bind fun r21 =>
 bif r21.2.1 then
 ((sMeet r2.2.1 r1.2.1).bind fun r22 =>
 ((sHas r22.2.1 ([101, 204, 129] : List UInt8)).bind fun r23 =>
 bif r23.2.1 then
 ((sNorm r1.2.1).bind fun r24 =>
 some ((), ((r24.2.1.2.2.length : Int) == 1), ()))
 else
 some ((), false, ())))
 else
 some ((), false, ())))
 else
 some ((), false, ())))
 else
 some ((), false, ()))
 else
 some ((), false, ()))
 else
 some ((), false, ())))
 else
 some ((), false, ()))
 else
 some ((), false, ())))
 else
 some ((), false, ()))
 else
 some ((), false, ()))
 else
 some ((), false, ()))
 else
 some ((), false, ()))
 else
 some ((), false, ()))
 else
 some ((), false, ()))
 else
 some ((), false, ())))))
def fixed_c : Ctr := ⟨[], [.val .bool], fun v => fixed⟩
def fixed_g : zG := [(9, sNorm_c), (14, sMay_c), (15, sHas_c), (27, sOf_c), (23, sFirst_c), (28, sOnes_c), (21, sAll_c), (10, sUnion_c), (11, sMeet_c), (12, sMinus_c), (13, sNot_c), (19, sEqual_c), (20, sEmpty_c)]
theorem fixed_eq : EqB fixed_c fixed_g h0 94 Tryz.f8 [0] [] := fun v => by kernel_rfl
def lKeeps_s25 (a2 : tS) (a5 : tS) (a10 : ((Option (Nat × Nat × Nat)) × (Option (Nat × Nat × Nat)) × (Option (Nat × Nat × Nat)))) (a30 : List ((Option (Nat × Nat × Nat)) × (Option (Nat × Nat × Nat)) × (Option (Nat × Nat × Nat)))) (a31 : Int) (a32 : Int) (a38 : Int) (a39 : Int) (q0 : List (Option tC)) (q1 : List (Option tW)) : Option (((tS × tS × ((Option (Nat × Nat × Nat)) × (Option (Nat × Nat × Nat)) × (Option (Nat × Nat × Nat))) × List ((Option (Nat × Nat × Nat)) × (Option (Nat × Nat × Nat)) × (Option (Nat × Nat × Nat))) × Int × Int × Int × Int × Unit) × List (Option tC) × List (Option tW) × Unit) ⊕ ((tS × tS × ((Option (Nat × Nat × Nat)) × (Option (Nat × Nat × Nat)) × (Option (Nat × Nat × Nat))) × List ((Option (Nat × Nat × Nat)) × (Option (Nat × Nat × Nat)) × (Option (Nat × Nat × Nat))) × Int × Int × Unit) × List (Option tC) × List (Option tW) × Unit)) :=
 bif (decide (a39 < a38)) then
 ((hix q0 a10.1 a39).bind fun h26 =>
 ((pget q0 h26.1 h26.2).bind fun x27 =>
 some (.inl ((a2, a5, a10, a30, a31, a32, a38, (IntKind.i64.wrap (a39 + 1)), ()), (pset q0 h26.1 h26.2 ((0 : Int), (0 : Int))), q1, ()))))
 else
 some (.inr ((a2, a5, a10, a30, a31, a32, ()), q0, q1, ()))
def lKeeps_s32 (a2 : tS) (a5 : tS) (a10 : ((Option (Nat × Nat × Nat)) × (Option (Nat × Nat × Nat)) × (Option (Nat × Nat × Nat)))) (a30 : List ((Option (Nat × Nat × Nat)) × (Option (Nat × Nat × Nat)) × (Option (Nat × Nat × Nat)))) (a31 : Int) (a32 : Int) (a50 : Int) (a51 : Int) (q0 : List (Option tC)) (q1 : List (Option tW)) : Option (((tS × tS × ((Option (Nat × Nat × Nat)) × (Option (Nat × Nat × Nat)) × (Option (Nat × Nat × Nat))) × List ((Option (Nat × Nat × Nat)) × (Option (Nat × Nat × Nat)) × (Option (Nat × Nat × Nat))) × Int × Int × Int × Int × Unit) × List (Option tC) × List (Option tW) × Unit) ⊕ ((tS × tS × ((Option (Nat × Nat × Nat)) × (Option (Nat × Nat × Nat)) × (Option (Nat × Nat × Nat))) × List ((Option (Nat × Nat × Nat)) × (Option (Nat × Nat × Nat)) × (Option (Nat × Nat × Nat))) × Int × Int × Unit) × List (Option tC) × List (Option tW) × Unit)) :=
 bif (decide (a51 < a50)) then
 ((hix q0 a10.2.1 a51).bind fun h33 =>
 ((pget q0 h33.1 h33.2).bind fun x34 =>
 some (.inl ((a2, a5, a10, a30, a31, a32, a50, (IntKind.i64.wrap (a51 + 1)), ()), (pset q0 h33.1 h33.2 ((0 : Int), (0 : Int))), q1, ()))))
 else
 some (.inr ((a2, a5, a10, a30, a31, a32, ()), q0, q1, ()))
def lKeeps_s38 (a2 : tS) (a5 : tS) (a10 : ((Option (Nat × Nat × Nat)) × (Option (Nat × Nat × Nat)) × (Option (Nat × Nat × Nat)))) (a30 : List ((Option (Nat × Nat × Nat)) × (Option (Nat × Nat × Nat)) × (Option (Nat × Nat × Nat)))) (a31 : Int) (a32 : Int) (a62 : Int) (a63 : Int) (q0 : List (Option tC)) (q1 : List (Option tW)) : Option (((tS × tS × ((Option (Nat × Nat × Nat)) × (Option (Nat × Nat × Nat)) × (Option (Nat × Nat × Nat))) × List ((Option (Nat × Nat × Nat)) × (Option (Nat × Nat × Nat)) × (Option (Nat × Nat × Nat))) × Int × Int × Int × Int × Unit) × List (Option tC) × List (Option tW) × Unit) ⊕ ((tS × tS × List ((Option (Nat × Nat × Nat)) × (Option (Nat × Nat × Nat)) × (Option (Nat × Nat × Nat))) × Int × Int × Unit) × List (Option tC) × List (Option tW) × Unit)) :=
 bif (decide (a63 < a62)) then
 ((hix q1 a10.2.2 a63).bind fun h39 =>
 ((pget q1 h39.1 h39.2).bind fun x40 =>
 let l41 := (pset q1 h39.1 h39.2 ([119, 105, 112, 101, 100] : List UInt8))
 some (.inl ((a2, a5, a10, a30, a31, a32, a62, (IntKind.i64.wrap (a63 + 1)), ()), q0, l41, ()))))
 else
 some (.inr ((a2, a5, a30, a31, a32, ()), q0, q1, ()))
def lKeeps_s20 (a2 : tS) (a5 : tS) (a30 : List ((Option (Nat × Nat × Nat)) × (Option (Nat × Nat × Nat)) × (Option (Nat × Nat × Nat)))) (a31 : Int) (a32 : Int) (q0 : List (Option tC)) (q1 : List (Option tW)) : Option (((tS × tS × List ((Option (Nat × Nat × Nat)) × (Option (Nat × Nat × Nat)) × (Option (Nat × Nat × Nat))) × Int × Int × Unit) × List (Option tC) × List (Option tW) × Unit) ⊕ ((tS × tS × Unit) × List (Option tC) × List (Option tW) × Unit)) :=
 bif (decide (a32 < a31)) then
 ((lk a30 a32).bind fun _x21 =>
 ((lk a30 a32).bind fun x22 =>
 ((show Option ((tS × tS × ((Option (Nat × Nat × Nat)) × (Option (Nat × Nat × Nat)) × (Option (Nat × Nat × Nat))) × List ((Option (Nat × Nat × Nat)) × (Option (Nat × Nat × Nat)) × (Option (Nat × Nat × Nat))) × Int × Int × Unit) × List (Option tC) × List (Option tW) × Unit) from
 ((iterN (fun x => lKeeps_s25 x.1.1 x.1.2.1 x.1.2.2.1 x.1.2.2.2.1 x.1.2.2.2.2.1 x.1.2.2.2.2.2.1 x.1.2.2.2.2.2.2.1 x.1.2.2.2.2.2.2.2.1 x.2.1 x.2.2.1) fuN ((a2, a5, x22, a30, a31, a32, ((hlen x22.1 : Nat) : Int), (0 : Int), ()), q0, q1, ())).bind fun y28 =>
 some ((y28.1.1, y28.1.2.1, y28.1.2.2.1, y28.1.2.2.2.1, y28.1.2.2.2.2.1, y28.1.2.2.2.2.2.1, ()), y28.2.1, y28.2.2.1, ()))).bind fun y29 =>
 ((show Option ((tS × tS × ((Option (Nat × Nat × Nat)) × (Option (Nat × Nat × Nat)) × (Option (Nat × Nat × Nat))) × List ((Option (Nat × Nat × Nat)) × (Option (Nat × Nat × Nat)) × (Option (Nat × Nat × Nat))) × Int × Int × Unit) × List (Option tC) × List (Option tW) × Unit) from
 ((iterN (fun x => lKeeps_s32 x.1.1 x.1.2.1 x.1.2.2.1 x.1.2.2.2.1 x.1.2.2.2.2.1 x.1.2.2.2.2.2.1 x.1.2.2.2.2.2.2.1 x.1.2.2.2.2.2.2.2.1 x.2.1 x.2.2.1) fuN ((y29.1.1, y29.1.2.1, y29.1.2.2.1, y29.1.2.2.2.1, y29.1.2.2.2.2.1, y29.1.2.2.2.2.2.1, ((hlen y29.1.2.2.1.2.1 : Nat) : Int), (0 : Int), ()), y29.2.1, y29.2.2.1, ())).bind fun y35 =>
 some ((y35.1.1, y35.1.2.1, y35.1.2.2.1, y35.1.2.2.2.1, y35.1.2.2.2.2.1, y35.1.2.2.2.2.2.1, ()), y35.2.1, y35.2.2.1, ()))).bind fun y36 =>
 ((iterN (fun x => lKeeps_s38 x.1.1 x.1.2.1 x.1.2.2.1 x.1.2.2.2.1 x.1.2.2.2.2.1 x.1.2.2.2.2.2.1 x.1.2.2.2.2.2.2.1 x.1.2.2.2.2.2.2.2.1 x.2.1 x.2.2.1) fuN ((y36.1.1, y36.1.2.1, y36.1.2.2.1, y36.1.2.2.2.1, y36.1.2.2.2.2.1, y36.1.2.2.2.2.2.1, ((hlen y36.1.2.2.1.2.2 : Nat) : Int), (0 : Int), ()), y36.2.1, y36.2.2.1, ())).bind fun y42 =>
 some (.inl ((y42.1.1, y42.1.2.1, y42.1.2.2.1, y42.1.2.2.2.1, (IntKind.i64.wrap (y42.1.2.2.2.2.1 + 1)), ()), y42.2.1, y42.2.2.1, ())))))))
 else
 some (.inr ((a2, a5, ()), q0, q1, ()))
def lKeeps_s48 (a2 : tS) (a5 : tS) (a14 : tS) (a77 : Int) (a78 : Int) (q0 : List (Option tC)) (q1 : List (Option tW)) : Option (((tS × tS × tS × Int × Int × Unit) × List (Option tC) × List (Option tW) × Unit) ⊕ ((tS × tS × tS × Unit) × List (Option tC) × List (Option tW) × Unit)) :=
 bif (decide (a78 < a77)) then
 ((lk a14.1 a78).bind fun _x49 =>
 ((lk a14.1 a78).bind fun x50 =>
 some (.inl ((a2, a5, ((a14.1.set a78.toNat ((3 : Int), (3 : Int))), a14.2), a77, (IntKind.i64.wrap (a78 + 1)), ()), q0, q1, ()))))
 else
 some (.inr ((a2, a5, a14, ()), q0, q1, ()))
def lKeeps (p0 : tS) (p1 : tS) : Option (Unit × Bool × Unit) :=
 ((show Option (((Bool × Unit) × List (Option tC) × List (Option tW) × Unit) ⊕ ((tS × tS × Unit) × List (Option tC) × List (Option tW) × Unit)) from
 ((fixed).bind fun r2 =>
 bif (!r2.2.1) then
 some (.inl ((false, ()), ([] : List (Option tC)), ([] : List (Option tW)), ()))
 else
 some (.inr ((p0, p1, ()), ([] : List (Option tC)), ([] : List (Option tW)), ())))).bind fun y3 =>
 (match y3 with
 | .inl y3 =>
 some ((), y3.1.1, ())
 | .inr y3 =>
 ((copy6 y3.1.1).bind fun r4 =>
 ((sUnion r4.2.1 y3.1.2.1).bind fun r5 =>
 ((sNorm r4.2.1).bind fun r6 =>
 ((sNot r4.2.1).bind fun r7 =>
 ((show Option ((tS × tS × Unit) × List (Option tC) × List (Option tW) × Unit) from
 let l9 := (some ((y3.2.1 ++ [some r5.2.1.1]).length, 0, r5.2.1.2.1.length))
 let l10 := (some (((y3.2.1 ++ [some r5.2.1.1]) ++ [some r5.2.1.2.1]).length, 0, r6.2.1.1.length))
 let l11 := (some ((((y3.2.1 ++ [some r5.2.1.1]) ++ [some r5.2.1.2.1]) ++ [some r6.2.1.1]).length, 0, r6.2.1.2.1.length))
 let l12 := (some ((y3.2.2.1 ++ [some r5.2.1.2.2]).length, 0, r6.2.1.2.2.length))
 let l13 := (some (((((y3.2.1 ++ [some r5.2.1.1]) ++ [some r5.2.1.2.1]) ++ [some r6.2.1.1]) ++ [some r6.2.1.2.1]).length, 0, r7.2.1.1.length))
 let l14 := (some ((((((y3.2.1 ++ [some r5.2.1.1]) ++ [some r5.2.1.2.1]) ++ [some r6.2.1.1]) ++ [some r6.2.1.2.1]) ++ [some r7.2.1.1]).length, 0, r7.2.1.2.1.length))
 let l15 := (some (((y3.2.2.1 ++ [some r5.2.1.2.2]) ++ [some r6.2.1.2.2]).length, 0, r7.2.1.2.2.length))
 let l16 := ((((((y3.2.1 ++ [some r5.2.1.1]) ++ [some r5.2.1.2.1]) ++ [some r6.2.1.1]) ++ [some r6.2.1.2.1]) ++ [some r7.2.1.1]) ++ [some r7.2.1.2.1])
 let l17 := (((y3.2.2.1 ++ [some r5.2.1.2.2]) ++ [some r6.2.1.2.2]) ++ [some r7.2.1.2.2])
 let v18 := ([((some (y3.2.1.length, 0, r5.2.1.1.length)), l9, (some (y3.2.2.1.length, 0, r5.2.1.2.2.length))), (l10, l11, l12), (l13, l14, l15)].length : Int)
 ((iterN (fun x => lKeeps_s20 x.1.1 x.1.2.1 x.1.2.2.1 x.1.2.2.2.1 x.1.2.2.2.2.1 x.2.1 x.2.2.1) fuN ((y3.1.1, r4.2.1, [((some (y3.2.1.length, 0, r5.2.1.1.length)), l9, (some (y3.2.2.1.length, 0, r5.2.1.2.2.length))), (l10, l11, l12), (l13, l14, l15)], v18, (0 : Int), ()), l16, l17, ())).bind fun y43 =>
 some ((y43.1.1, y43.1.2.1, ()), y43.2.1, y43.2.2.1, ()))).bind fun y44 =>
 ((sFirst y44.1.2.1.1).bind fun r45 =>
 ((show Option ((tS × tS × tS × Unit) × List (Option tC) × List (Option tW) × Unit) from
 ((iterN (fun x => lKeeps_s48 x.1.1 x.1.2.1 x.1.2.2.1 x.1.2.2.2.1 x.1.2.2.2.2.1 x.2.1 x.2.2.1) fuN ((y44.1.1, y44.1.2.1, r45.2.1, (r45.2.1.1.length : Int), (0 : Int), ()), y44.2.1, y44.2.2.1, ())).bind fun y51 =>
 some ((y51.1.1, y51.1.2.1, y51.1.2.2.1, ()), y51.2.1, y51.2.2.1, ()))).bind fun y52 =>
 ((same6 y52.1.2.1 y52.1.1).bind fun r53 =>
 bif r53.2.1 then
 ((refNorm y52.1.1.1).bind fun r54 =>
 ((refSame y52.1.2.2.1.2.1 r54.2.1).bind fun r55 =>
 bif r55.2.1 then
 ((sNorm y52.1.2.1).bind fun r56 =>
 ((norm6 y52.1.1).bind fun r57 =>
 ((same6 r56.2.1 r57.2.1).bind fun r58 =>
 some ((), r58.2.1, ()))))
 else
 some ((), false, ())))
 else
 some ((), false, ())))))))))))
def lKeeps_c : Ctr := ⟨[.ro y1, .ro y1], [.val .bool], fun v => lKeeps v.1 v.2.1⟩
def lKeeps_h : zH := fun i => if i = 1250030 then some ⟨⟨[], [], []⟩, [(.normal, ⟨[(2, .bx y1), (5, .bx y2), (14, .bx y2)], [], [(0, y0), (1, .str)]⟩)]⟩ else if i = 26 then some ⟨⟨[(2, .bx y1), (5, .bx y2), (14, .bx y2), (77, yi64), (78, yi64)], [], [(0, y0), (1, .str)]⟩, [((.exit 8), ⟨[(2, .bx y1), (5, .bx y2), (14, .bx y2)], [], [(0, y0), (1, .str)]⟩)]⟩ else if i = 1050024 then some ⟨⟨[], [], []⟩, [(.normal, ⟨[(2, .bx y1), (5, .bx y2)], [], [(0, y0), (1, .str)]⟩)]⟩ else if i = 6 then some ⟨⟨[(2, .bx y1), (5, .bx y2), (30, .vec y5), (31, yi64), (32, yi64)], [], [(0, y0), (1, .str)]⟩, [((.exit 0), ⟨[(2, .bx y1), (5, .bx y2)], [], [(0, y0), (1, .str)]⟩)]⟩ else if i = 19 then some ⟨⟨[(2, .bx y1), (5, .bx y2), (10, .bx y5), (30, .vec y5), (31, yi64), (32, yi64), (62, yi64), (63, yi64)], [], [(0, y0), (1, .str)]⟩, [((.exit 6), ⟨[(2, .bx y1), (5, .bx y2), (30, .vec y5), (31, yi64), (32, yi64)], [], [(0, y0), (1, .str)]⟩)]⟩ else if i = 1130018 then some ⟨⟨[], [], []⟩, [(.normal, ⟨[(2, .bx y1), (5, .bx y2), (10, .bx y5), (30, .vec y5), (31, yi64), (32, yi64)], [], [(0, y0), (1, .str)]⟩)]⟩ else if i = 14 then some ⟨⟨[(2, .bx y1), (5, .bx y2), (10, .bx y5), (30, .vec y5), (31, yi64), (32, yi64), (50, yi64), (51, yi64)], [], [(0, y0), (1, .str)]⟩, [((.exit 4), ⟨[(2, .bx y1), (5, .bx y2), (10, .bx y5), (30, .vec y5), (31, yi64), (32, yi64)], [], [(0, y0), (1, .str)]⟩)]⟩ else if i = 1080013 then some ⟨⟨[], [], []⟩, [(.normal, ⟨[(2, .bx y1), (5, .bx y2), (10, .bx y5), (30, .vec y5), (31, yi64), (32, yi64)], [], [(0, y0), (1, .str)]⟩)]⟩ else if i = 9 then some ⟨⟨[(2, .bx y1), (5, .bx y2), (10, .bx y5), (30, .vec y5), (31, yi64), (32, yi64), (38, yi64), (39, yi64)], [], [(0, y0), (1, .str)]⟩, [((.exit 2), ⟨[(2, .bx y1), (5, .bx y2), (10, .bx y5), (30, .vec y5), (31, yi64), (32, yi64)], [], [(0, y0), (1, .str)]⟩)]⟩ else if i = 1010003 then some ⟨⟨[], [], []⟩, [(.ret, ⟨[(4, .bool)], [], [(0, y0), (1, .str)]⟩), (.normal, ⟨[(2, .bx y1), (3, .bx y1)], [], [(0, y0), (1, .str)]⟩)]⟩ else none
def lKeeps_g : zG := [(24, refSame_c), (25, refNorm_c), (9, sNorm_c), (23, sFirst_c), (10, sUnion_c), (13, sNot_c), (18, same6_c), (26, norm6_c), (22, copy6_c), (8, fixed_c)]
theorem lKeeps_eq (v : PDen lKeeps_c.ps) : semF tbl (gam lKeeps_g) lKeeps_h fuN 105 (bodyOf Tryz.f5) [(0, .st (.pair (.int IntKind.i32) (.int IntKind.i32))), (1, .str)] lKeeps_c.ps lKeeps_c.rs [4] [] v = lKeeps_c.g v := by kernel_rfl
end
end
end Go.Vu.Sg
