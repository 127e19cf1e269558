/- Values' functions of the program, printed, and that each body computes its own. -/
import Derived.Test.YtfmhkcidechgdaaGreatVtSort4
import Derived.Test.YtfmhkcidechgdaaGreatProg
set_option linter.unusedVariables false
set_option maxRecDepth 100000
namespace Go.Vt.Pk
noncomputable section
open Go Go.Vt Go.Proofs
def s_less (x y : List UInt8) : Option (Unit × Bool × Unit) := some ((), Op.bytesLess x y, ())
def s_less_c : Ctr := ⟨[.ro .str, .ro .str], [.val .bool], fun v => s_less v.1 v.2.1⟩
def cmpv (x y : Int) : Int := if x < y then -1 else if x > y then 1 else 0
def c_cmp (p q : Int × Int) : Option (Unit × Int × Unit) := some ((), cmpv p.1 q.1, ())
def c_cmp_c : Ctr := ⟨[.ro (.st (.pair (.int IntKind.i32) (.int IntKind.i32))), .ro (.st (.pair (.int IntKind.i32) (.int IntKind.i32)))], [.val (.int IntKind.i64)], fun v => c_cmp v.1 v.2.1⟩
def c_less (p q : Int × Int) : Option (Unit × Bool × Unit) := some ((), decide (cmpv p.1 q.1 < 0), ())
def s_pdqR_cR (rec : List (List UInt8) → Int → Int → Int → Option (List (List UInt8) × Unit)) : Ctr := ⟨[.mu (.vec .str), .ro (.int IntKind.i64), .ro (.int IntKind.i64), .ro (.int IntKind.i64)], [], fun v => rec v.1 v.2.1 v.2.2.1 v.2.2.2.1⟩
def c_pdqR_cR (rec : List (Int × Int) → Int → Int → Int → Option (List (Int × Int) × Unit)) : Ctr := ⟨[.mu (.vec (.st (.pair (.int IntKind.i32) (.int IntKind.i32)))), .ro (.int IntKind.i64), .ro (.int IntKind.i64), .ro (.int IntKind.i64), .ro (.clo 122 .unit)], [], fun v => rec v.1 v.2.1 v.2.2.1 v.2.2.2.1⟩
def sortS (l : List (List UInt8)) : Option (List (List UInt8) × Unit) := Srt.sortG (Srt.pdqN s_less (l.length + 1)) l
def sortS_c : Ctr := ⟨[.mu (.vec .str)], [], fun v => sortS v.1⟩
def sortF (l : List (Int × Int)) : Option (List (Int × Int) × Unit) := Srt.sortG (Srt.pdqN c_less (l.length + 1)) l
def sortF_c : Ctr := ⟨[.mu (.vec (.st (.pair (.int IntKind.i32) (.int IntKind.i32)))), .ro (.clo 122 .unit)], [], fun v => sortF v.1⟩
def refSorted_cR (rec : List (Int × Int) → Option (Unit × List (Int × Int) × Unit)) : Ctr := ⟨[.ro (.slice (.st (.pair (.int IntKind.i32) (.int IntKind.i32))))], [.val (.slice (.st (.pair (.int IntKind.i32) (.int IntKind.i32))))], fun v => rec v.1⟩
def cloneI (l : List Int) : Option (Unit × List Int × Unit) := if l.length ≤ 17592186044416 then some ((), l, ()) else none
def cloneI_c : Ctr := ⟨[.ro (.slice (.int IntKind.i64))], [.own (.vec (.int IntKind.i64))], fun v => cloneI v.1⟩
abbrev RgS := List (Int × Int)
abbrev SetT := RgS × (RgS × List (List UInt8))
abbrev NodeT := Int × (SetT × Int × Int)
abbrev StT := List (List UInt8) × (Int × Int × Int)
abbrev ySet : Ty := .st (.pair (.slice (.st (.pair (.int IntKind.i32) (.int IntKind.i32)))) (.pair (.slice (.st (.pair (.int IntKind.i32) (.int IntKind.i32)))) (.slice .str)))
abbrev yNode : Ty := .st (.pair (.int IntKind.i64) (.pair ySet (.pair (.int IntKind.i64) (.int IntKind.i64))))
abbrev ySt : Ty := .bx (.st (.pair (.slice .str) (.pair (.int IntKind.i64) (.pair (.int IntKind.i64) (.int IntKind.i64)))))
def choiceR_cR (rec : StT → Int → Option (StT × List NodeT × Unit)) : Ctr := ⟨[.mu ySt, .ro (.int IntKind.i64)], [.own (.vec yNode)], fun v => rec v.1 v.2.1⟩
def x_all6 : Option (Unit × SetT × Unit) := none
def x_all6_c : Ctr := ⟨[], [.val ySet], fun _ => x_all6⟩
def x_class7 (_ : StT) : Option (StT × SetT × Unit) := none
def x_class7_c : Ctr := ⟨[.mu ySt], [.val ySet], fun v => x_class7 v.1⟩
def x_cat7 (_ : StT) : Option (StT × SetT × Unit) := none
def x_cat7_c : Ctr := ⟨[.mu ySt], [.val ySet], fun v => x_cat7 v.1⟩
def x_letter7 (_ : StT) : Option (StT × List UInt8 × Unit) := none
def x_letter7_c : Ctr := ⟨[.mu ySt], [.val .str], fun v => x_letter7 v.1⟩
def x_count7 (_ : StT) : Option (StT × NodeT × Unit) := none
def x_count7_c : Ctr := ⟨[.mu ySt], [.val yNode], fun v => x_count7 v.1⟩
theorem x_all6_ok : x_all6_c.Ok Tryz.prog 114 := fun v r h => by cases h
theorem x_class7_ok : x_class7_c.Ok Tryz.prog 115 := fun v r h => by cases h
theorem x_cat7_ok : x_cat7_c.Ok Tryz.prog 116 := fun v r h => by cases h
theorem x_letter7_ok : x_letter7_c.Ok Tryz.prog 118 := fun v r h => by cases h
theorem x_count7_ok : x_count7_c.Ok Tryz.prog 98 := fun v r h => by cases h
abbrev tS := List (Int × Int) × List (Int × Int) × List (List UInt8)
abbrev tN := Int × tS × Int × Int
abbrev tG := List tN
abbrev tW := List (List UInt8)
abbrev tQ := List Int × List Int
abbrev tM := tG × tW × Bool × Bool × tQ × tQ × List Int × Int
abbrev tK := Int × Int × Int × Int
abbrev tT := tW × Int × Int × Int
abbrev tC := List (Int × Int)
abbrev yi64 : Ty := .int IntKind.i64
abbrev yi32 : Ty := .int IntKind.i32
abbrev yu8 : Ty := .int IntKind.u8
abbrev yu64 : Ty := .int IntKind.u64
abbrev y0 : Ty := .st (.pair yi64 (.pair (.st (.pair (.slice (.st (.pair yi32 yi32))) (.pair (.slice (.st (.pair yi32 yi32))) (.slice .str)))) (.pair yi64 yi64)))
abbrev y1 : Ty := .bx (.st (.pair (.slice y0) (.pair (.slice .str) (.pair .bool (.pair .bool (.pair (.bx (.st (.pair (.vec yi64) (.vec yi64)))) (.pair (.bx (.st (.pair (.vec yi64) (.vec yi64)))) (.pair (.vec yi64) yi64))))))))
abbrev y2 : Ty := .st (.pair yi32 yi32)
abbrev y3 : Ty := .pair yi64 yi64
abbrev y4 : Ty := .bx (.st (.pair (.slice .str) (.pair yi64 y3)))
abbrev y5 : Ty := .st (.pair (.slice y2) (.pair (.slice y2) (.slice .str)))
abbrev y6 : Ty := .st (.pair yi64 (.pair yi64 y3))
abbrev y7 : Ty := .ptr (.st (.pair (.slice y0) (.pair (.slice .str) (.pair .bool (.pair .bool (.pair (.ptr (.st (.pair (.slice yi64) (.slice yi64)))) (.pair (.ptr (.st (.pair (.slice yi64) (.slice yi64)))) (.pair (.slice yi64) yi64))))))))
abbrev y8 : Ty := .st (.pair yi32 y3)
abbrev y9 : Ty := .st (.pair .str y3)
def zN (l : List (Nat × Ty)) : EK × Tpl := (.normal, ⟨l, []⟩)
def zR (l : List (Nat × Ty)) : EK × Tpl := (.ret, ⟨l, []⟩)
def zX (k : Nat) (l : List (Nat × Ty)) : EK × Tpl := (.exit k, ⟨l, []⟩)
def zL (l : List (Nat × Ty)) (x : List (EK × Tpl)) : Option LH := some ⟨⟨l, []⟩, x⟩
def zC (x : List (EK × Tpl)) : Option LH := zL [] x
abbrev zH := Nat → Option LH
abbrev zG := List (Nat × Ctr)
def h0 : zH := fun _ => none
abbrev s0 : Ty := .slice y0
abbrev s1 : Ty := .slice .str
def tbl : Tab := [
  (2, ⟨1, 8, false, (.int IntKind.i64), (.int IntKind.i64), ((0 : Int) : Int), false⟩),
  (3, ⟨1, 8, false, (.int IntKind.i64), (.int IntKind.i64), ((0 : Int) : Int), false⟩),
  (4, ⟨1, 1, false, .bool, .bool, (false : Bool), false⟩),
  (5, ⟨1, 1, false, (.int IntKind.u8), (.int IntKind.u8), ((0 : Int) : Int), false⟩),
  (9, ⟨1, 16, false, .str, .str, (([] : List UInt8) : List UInt8), false⟩),
  (21, ⟨1, 4, false, (.int IntKind.i32), (.int IntKind.i32), ((0 : Int) : Int), false⟩),
  (22, ⟨1, 24, false, (.slice 72), (.slice (.st (.pair yi64 (.pair (.st (.pair (.slice (.st (.pair yi32 yi32))) (.pair (.slice (.st (.pair yi32 yi32))) (.slice .str)))) (.pair yi64 yi64))))), (([] : tG) : tG), false⟩),
  (23, ⟨1, 24, false, (.slice 9), (.slice .str), (([] : tW) : tW), false⟩),
  (24, ⟨3, 24, true, (.arr 3 3), (.st (.pair yi64 (.pair yi64 yi64))), (((0 : Int), (0 : Int), (0 : Int)) : (Int × Int × Int)), false⟩),
  (26, ⟨1, 8, false, (.int IntKind.i64), (.int IntKind.i64), ((0 : Int) : Int), false⟩),
  (34, ⟨1, 24, false, (.slice 52), (.slice (.st (.pair yi64 (.pair yi64 (.pair yi64 yi64))))), (([] : List tK) : List tK), false⟩),
  (42, ⟨1, 24, false, (.slice 5), (.slice yu8), (([] : List Int) : List Int), false⟩),
  (43, ⟨1, 24, false, (.slice 94), (.slice (.st (.pair yi64 (.pair (.st (.pair (.slice (.st (.pair yi32 yi32))) (.pair (.slice (.st (.pair yi32 yi32))) (.slice .str)))) (.pair yi64 yi64))))), (([] : tG) : tG), false⟩),
  (50, ⟨1, 24, false, (.slice 4), (.slice .bool), (([] : List Bool) : List Bool), false⟩),
  (52, ⟨4, 32, true, (.struct [(0, 3), (1, 3), (2, 3), (3, 3)]), (.st (.pair yi64 (.pair yi64 (.pair yi64 yi64)))), (((0 : Int), (0 : Int), (0 : Int), (0 : Int)) : tK), true⟩),
  (54, ⟨2, 48, true, (.arr 2 23), (.st (.pair (.slice .str) (.slice .str))), ((([] : tW), ([] : tW)) : (tW × tW)), false⟩),
  (55, ⟨2, 16, true, (.arr 2 3), (.st (.pair yi64 yi64)), (((0 : Int), (0 : Int)) : (Int × Int)), false⟩),
  (57, ⟨1, 8, false, (.int IntKind.u64), (.int IntKind.u64), ((0 : Int) : Int), false⟩),
  (64, ⟨1, 8, false, (.ptr 128), (.ptr (.st (.pair (.slice yi64) (.slice yi64)))), (none : Option tQ), false⟩),
  (65, ⟨1, 24, false, (.slice 3), (.slice yi64), (([] : List Int) : List Int), false⟩),
  (67, ⟨8, 104, true, (.struct [(0, 22), (1, 23), (2, 4), (3, 4), (4, 64), (5, 64), (6, 65), (7, 3)]), (.st (.pair (.slice (.st (.pair yi64 (.pair (.st (.pair (.slice (.st (.pair .any .any))) (.pair (.slice (.st (.pair .any .any))) (.slice .str)))) (.pair yi64 yi64))))) (.pair (.slice .str) (.pair .bool (.pair .bool (.pair (.ptr (.st (.pair (.slice yi64) (.slice yi64)))) (.pair (.ptr (.st (.pair (.slice yi64) (.slice yi64)))) (.pair (.slice yi64) yi64)))))))), ((([] : List (Int × (List (Unit × Unit) × List (Unit × Unit) × tW) × Int × Int)), ([] : tW), false, false, none, none, ([] : List Int), (0 : Int)) : (List (Int × (List (Unit × Unit) × List (Unit × Unit) × tW) × Int × Int) × tW × Bool × Bool × Option tQ × Option tQ × List Int × Int)), true⟩),
  (68, ⟨1, 24, false, (.slice 135), (.slice (.st (.pair yi32 yi32))), (([] : tC) : tC), false⟩),
  (70, ⟨3, 72, true, (.struct [(0, 68), (1, 68), (2, 23)]), (.st (.pair (.slice (.st (.pair yi32 yi32))) (.pair (.slice (.st (.pair yi32 yi32))) (.slice .str)))), ((([] : tC), ([] : tC), ([] : tW)) : tS), true⟩),
  (72, ⟨6, 96, true, (.struct [(0, 3), (1, 70), (4, 3), (5, 3)]), (.st (.pair yi64 (.pair (.st (.pair (.slice (.st (.pair yi32 yi32))) (.pair (.slice (.st (.pair yi32 yi32))) (.slice .str)))) (.pair yi64 yi64)))), (((0 : Int), (([] : tC), ([] : tC), ([] : tW)), (0 : Int), (0 : Int)) : tN), true⟩),
  (79, ⟨1, 24, false, (.slice 118), (.slice (.st (.pair .str (.pair yi64 yi64)))), (([] : List (List UInt8 × Int × Int)) : List (List UInt8 × Int × Int)), false⟩),
  (85, ⟨4, 48, true, (.struct [(0, 23), (1, 3), (2, 26), (3, 3)]), (.st (.pair (.slice .str) (.pair yi64 (.pair yi64 yi64)))), ((([] : tW), (0 : Int), (0 : Int), (0 : Int)) : tT), true⟩),
  (94, ⟨6, 96, true, (.struct [(0, 3), (1, 70), (4, 3), (5, 3)]), (.st (.pair yi64 (.pair (.st (.pair (.slice (.st (.pair yi32 yi32))) (.pair (.slice (.st (.pair yi32 yi32))) (.slice .str)))) (.pair yi64 yi64)))), (((0 : Int), (([] : tC), ([] : tC), ([] : tW)), (0 : Int), (0 : Int)) : tN), true⟩),
  (118, ⟨3, 32, true, (.struct [(0, 9), (1, 3), (2, 3)]), (.st (.pair .str (.pair yi64 yi64))), ((([] : List UInt8), (0 : Int), (0 : Int)) : (List UInt8 × Int × Int)), true⟩),
  (121, ⟨1, 24, false, (.slice 22), (.slice (.slice (.st (.pair yi64 (.pair (.st (.pair (.slice (.st (.pair .any .any))) (.pair (.slice (.st (.pair .any .any))) (.slice .str)))) (.pair yi64 yi64)))))), (([] : List (List (Int × (List (Unit × Unit) × List (Unit × Unit) × tW) × Int × Int))) : List (List (Int × (List (Unit × Unit) × List (Unit × Unit) × tW) × Int × Int))), false⟩),
  (128, ⟨2, 48, true, (.struct [(0, 65), (1, 65)]), (.st (.pair (.slice yi64) (.slice yi64))), ((([] : List Int), ([] : List Int)) : tQ), true⟩),
  (135, ⟨2, 8, true, (.struct [(0, 21), (1, 21)]), (.st (.pair yi32 yi32)), (((0 : Int), (0 : Int)) : (Int × Int)), true⟩),
  (137, ⟨1, 24, false, (.slice 21), (.slice yi32), (([] : List Int) : List Int), false⟩),
  (142, ⟨1, 24, false, (.slice 146), (.slice (.st (.pair yi32 (.pair yi64 yi64)))), (([] : List (Int × Int × Int)) : List (Int × Int × Int)), false⟩),
  (146, ⟨3, 24, true, (.struct [(0, 21), (1, 3), (2, 3)]), (.st (.pair yi32 (.pair yi64 yi64))), (((0 : Int), (0 : Int), (0 : Int)) : (Int × Int × Int)), true⟩),
  (155, ⟨1, 8, false, (.ptr 173), (.ptr (.st (.pair (.slice yu8) (.pair yi64 .bool)))), (none : Option (List Int × Int × Bool)), false⟩),
  (173, ⟨3, 40, true, (.struct [(0, 42), (1, 3), (2, 4)]), (.st (.pair (.slice yu8) (.pair yi64 .bool))), ((([] : List Int), (0 : Int), false) : (List Int × Int × Bool)), true⟩),
  (195, ⟨1, 8, false, (.int IntKind.i64), (.int IntKind.i64), ((0 : Int) : Int), false⟩),
  (204, ⟨1, 8, false, (.int IntKind.u64), (.int IntKind.u64), ((0 : Int) : Int), false⟩),
  (211, ⟨1, 8, false, (.int IntKind.u64), (.int IntKind.u64), ((0 : Int) : Int), false⟩)]
section
variable [Inhabited FuelW]
abbrev EqS (c : Ctr) (g : zG) (h : zH) (n : Nat) (f : Func) (is : List Nat) (cl : List (Nat × Nat)) : Prop := ∀ v : PDen c.ps, semF tbl (gam g) h fuelN n (bodyOf f) c.ps c.rs is cl v = c.g v
abbrev EqB (c : Ctr) (g : zG) (h : zH) (n : Nat) (f : Func) (is : List Nat) (cl : List (Nat × Nat)) : Prop := ∀ v : PDen c.ps, semF tbl (gam g) h fuN n (bodyOf f) c.ps c.rs is cl v = c.g v
def isNaN (p0 : Int) : Option (Unit × Bool × Unit) :=
 some ((), (p0 != p0), ())
def isNaN_c : Ctr := ⟨[.ro yi32], [.val .bool], fun v => isNaN v.1⟩
theorem isNaN_eq : EqB isNaN_c [] h0 6 Tryz.f140 [2] [] := fun v => by kernel_rfl
def cmpCompare (p0 : Int) (p1 : Int) : Option (Unit × Int × Unit) :=
 ((isNaN p0).bind fun r1 =>
 ((isNaN p1).bind fun r2 =>
 ((show Option ((Int × Unit) ⊕ (Int × Int × Bool × Unit)) from
 bif r1.2.1 then
 bif r2.2.1 then
 some (.inl ((0 : Int), ()))
 else
 some (.inl ((-1 : Int), ()))
 else
 some (.inr (p0, p1, r2.2.1, ()))).bind fun y4 =>
 (match y4 with
 | .inl y4 =>
 some ((), y4.1, ())
 | .inr y4 =>
 ((show Option ((Int × Unit) ⊕ (Int × Int × Unit)) from
 bif y4.2.2.1 then
 some (.inl ((1 : Int), ()))
 else
 some (.inr (y4.1, y4.2.1, ()))).bind fun y6 =>
 (match y6 with
 | .inl y6 =>
 some ((), y6.1, ())
 | .inr y6 =>
 ((show Option ((Int × Unit) ⊕ (Int × Int × Unit)) from
 bif (decide (y6.1 < y6.2.1)) then
 some (.inl ((-1 : Int), ()))
 else
 some (.inr (y6.1, y6.2.1, ()))).bind fun y8 =>
 (match y8 with
 | .inl y8 =>
 some ((), y8.1, ())
 | .inr y8 =>
 bif (decide (y8.1 > y8.2.1)) then
 some ((), (1 : Int), ())
 else
 some ((), (0 : Int), ())))))))))
def cmpCompare_c : Ctr := ⟨[.ro yi32, .ro yi32], [.val yi64], fun v => cmpCompare v.1 v.2.1⟩
def cmpCompare_h : zH := fun i => if i = 1090011 then zC [zR [(4, yi64)], zN [(0, yi32), (1, yi32)]] else if i = 1070009 then zC [zR [(4, yi64)], zN [(0, yi32), (1, yi32)]] else if i = 1030007 then zC [zR [(4, yi64)], zN [(0, yi32), (1, yi32), (6, .bool)]] else none
def cmpCompare_g : zG := [(140, isNaN_c)]
theorem cmpCompare_eq : EqB cmpCompare_c cmpCompare_g cmpCompare_h 20 Tryz.f123 [4] [] := fun v => by kernel_rfl
def normLess (p0 : (Int × Int)) (p1 : (Int × Int)) : Option (Unit × Int × Unit) :=
 ((cmpCompare p0.1 p1.1).bind fun r1 =>
 some ((), r1.2.1, ()))
def normLess_c : Ctr := ⟨[.ro y2, .ro y2], [.val yi64], fun v => normLess v.1 v.2.1⟩
def normLess_g : zG := [(123, cmpCompare_c)]
theorem normLess_eq : EqB normLess_c normLess_g h0 10 Tryz.f122 [4] [] := fun v => by kernel_rfl
def isNaNS (p0 : List UInt8) : Option (Unit × Bool × Unit) :=
 some ((), (!(p0 == p0)), ())
def isNaNS_c : Ctr := ⟨[.ro .str], [.val .bool], fun v => isNaNS v.1⟩
theorem isNaNS_eq : EqB isNaNS_c [] h0 6 Tryz.f179 [2] [] := fun v => by kernel_rfl
def cmpLessS (p0 : List UInt8) (p1 : List UInt8) : Option (Unit × Bool × Unit) :=
 ((isNaNS p0).bind fun r1 =>
 bif r1.2.1 then
 ((isNaNS p1).bind fun r2 =>
 bif (!r2.2.1) then
 some ((), true, ())
 else
 some ((), (Op.bytesLess p0 p1), ()))
 else
 some ((), (Op.bytesLess p0 p1), ()))
def cmpLessS_c : Ctr := ⟨[.ro .str, .ro .str], [.val .bool], fun v => cmpLessS v.1 v.2.1⟩
def cmpLessS_g : zG := [(179, isNaNS_c)]
theorem cmpLessS_eq : EqB cmpLessS_c cmpLessS_g h0 17 Tryz.f168 [4] [] := fun v => by kernel_rfl
def compactS_s14 (a0 : tW) (a3 : Int) (a4 : (Nat × Nat)) (a5 : Int) : Option ((tW × Int × (Nat × Nat) × Int × Unit) ⊕ (tW × Int × Unit)) :=
 ((show Option ((tW × Int × (Nat × Nat) × Int × Unit) ⊕ (tW × Int × Unit)) from
 bif (decide (a5 < (a4.2 : Int))) then
 some (.inl (a0, a3, a4, a5, ()))
 else
 some (.inr (a0, a3, ()))).bind fun y16 =>
 (match y16 with
 | .inl y16 =>
 ((show Option (tW × Int × (Nat × Nat) × Int × Unit) from
 bif (inR y16.2.2.2.1 y16.2.2.1.2) then
 ((lk y16.1 (plusI y16.2.2.1.1 y16.2.2.2.1)).bind fun x18 =>
 bif (inR (IntKind.i64.wrap (y16.2.2.2.1 - 1)) y16.2.2.1.2) then
 let v19 := (plusI y16.2.2.1.1 (IntKind.i64.wrap (y16.2.2.2.1 - 1)))
 ((lk y16.1 v19).bind fun x20 =>
 bif (!(x18 == x20)) then
 bif (inR y16.2.2.2.1 y16.2.2.1.2) then
 ((lk y16.1 (plusI y16.2.2.1.1 y16.2.2.2.1)).bind fun x21 =>
 ((lk y16.1 y16.2.1).bind fun _x22 =>
 ((lk y16.1 y16.2.1).bind fun x23 =>
 some ((y16.1.set y16.2.1.toNat x21), (IntKind.i64.wrap (y16.2.1 + 1)), y16.2.2.1, y16.2.2.2.1, ()))))
 else none
 else
 some (y16.1, y16.2.1, y16.2.2.1, y16.2.2.2.1, ()))
 else none)
 else none).bind fun y24 =>
 some (.inl (y24.1, y24.2.1, y24.2.2.1, (IntKind.i64.wrap (y24.2.2.2.1 + 1)), ())))
 | .inr y16 =>
 some (.inr (y16.1, y16.2.1, ()))))
def compactS_s4 (a0 : tW) (a3 : Int) : Option ((tW × Int × Unit) ⊕ ((tW × Unit) ⊕ (tW × Unit))) :=
 ((show Option ((tW × Int × Unit) ⊕ (tW × Unit)) from
 bif (decide (a3 < (a0.length : Int))) then
 some (.inl (a0, a3, ()))
 else
 some (.inr (a0, ()))).bind fun y6 =>
 (match y6 with
 | .inl y6 =>
 ((show Option ((tW × Unit) ⊕ (tW × Int × Unit)) from
 ((lk y6.1 y6.2.1).bind fun _x8 =>
 ((lk y6.1 y6.2.1).bind fun x9 =>
 ((lk y6.1 (IntKind.i64.wrap (y6.2.1 - 1))).bind fun _x10 =>
 ((lk y6.1 (IntKind.i64.wrap (y6.2.1 - 1))).bind fun x11 =>
 bif (x9 == x11) then
 bif (inB y6.2.1 (y6.1.length : Int) y6.1.length) then
 ((show Option (tW × Int × Unit) from
 ((iterN (fun x => compactS_s14 x.1 x.2.1 x.2.2.1 x.2.2.2.1) fuN (y6.1, y6.2.1, (y6.2.1.toNat, ((y6.1.length : Int) - y6.2.1).toNat), (1 : Int), ())).bind fun y25 =>
 some (y25.1, y25.2.1, ()))).bind fun y26 =>
 bif (inB y26.2.1 (y26.1.length : Int) y26.1.length) then
 let l27 := (clrL y26.1 y26.2.1.toNat ((y26.1.length : Int) - y26.2.1).toNat ([] : List UInt8))
 bif (inB (0 : Int) y26.2.1 l27.length) then
 some (.inl ((((l27).drop (0 : Int).toNat).take (y26.2.1 - 0).toNat), ()))
 else none
 else none)
 else none
 else
 some (.inr (y6.1, y6.2.1, ()))))))).bind fun y28 =>
 (match y28 with
 | .inl y28 =>
 some (.inr (.inl (y28.1, ())))
 | .inr y28 =>
 some (.inl (y28.1, (IntKind.i64.wrap (y28.2.1 + 1)), ()))))
 | .inr y6 =>
 some (.inr (.inr (y6.1, ())))))
def compactS (p0 : tW) : Option (Unit × tW × Unit) :=
 ((show Option ((tW × Unit) ⊕ (tW × Unit)) from
 bif (decide ((p0.length : Int) < 2)) then
 some (.inl (p0, ()))
 else
 some (.inr (p0, ()))).bind fun y2 =>
 (match y2 with
 | .inl y2 =>
 some ((), y2.1, ())
 | .inr y2 =>
 ((iterN (fun x => compactS_s4 x.1 x.2.1) fuN (y2.1, (1 : Int), ())).bind fun y29 =>
 (match y29 with
 | .inl y29 =>
 some ((), y29.1, ())
 | .inr y29 =>
 some ((), y29.1, ())))))
def compactS_c : Ctr := ⟨[.own (.vec .str)], [.own (.vec .str)], fun v => compactS v.1⟩
def compactS_h : zH := fun i => if i = 4 then zL [(0, .vec .str), (3, yi64)] [zR [(2, .vec .str)], zX 0 [(0, .vec .str)]] else if i = 1060005 then zC [zR [(2, .vec .str)], zN [(0, .vec .str), (3, yi64)]] else if i = 1080014 then zC [zN [(0, .vec .str), (3, yi64)]] else if i = 9 then zL [(0, .vec .str), (3, yi64), (4, (.osl 0)), (5, yi64)] [zX 2 [(0, .vec .str), (3, yi64)]] else if i = 1110010 then zC [zN [(0, .vec .str), (3, yi64), (4, (.osl 0)), (5, yi64)]] else if i = 1090011 then zC [zN [(0, .vec .str), (3, yi64), (4, (.osl 0)), (5, yi64)], zX 2 [(0, .vec .str), (3, yi64)]] else if i = 1040006 then zC [zN [(0, .vec .str), (3, yi64)], zX 0 [(0, .vec .str)]] else if i = 1010003 then zC [zR [(2, .vec .str)], zN [(0, .vec .str)]] else none
theorem compactS_eq : EqB compactS_c [] compactS_h 61 Tryz.f125 [2] [] := fun v => by kernel_rfl
end
def i_len64_c : Ctr := ⟨[.ro yu64], [.val yi64], fun v => Srt.len64 v.1⟩
def i_len64_h : zH := fun i => if i = 1070010 then zC [zN [(0, yu64), (2, yi64)]] else if i = 1040007 then zC [zN [(0, yu64), (2, yi64)]] else if i = 1010004 then zC [zN [(0, yu64), (2, yi64)]] else none
theorem i_len64_eq : EqS i_len64_c [] i_len64_h 25 Tryz.f161 [2] [] := fun v => by kernel_rfl
def i_bitsLen_c : Ctr := ⟨[.ro yu64], [.val yi64], fun v => Srt.bitsLen v.1⟩
def i_bitsLen_h : zH := fun i => if i = 1010002 then zC [zN [(0, yu64)]] else none
def i_bitsLen_g : zG := [(161, i_len64_c)]
theorem i_bitsLen_eq : EqS i_bitsLen_c i_bitsLen_g i_bitsLen_h 8 Tryz.f139 [2] [] := fun v => by kernel_rfl
def i_nextPow_c : Ctr := ⟨[.ro yi64], [.val yu64], fun v => Srt.nextPow v.1⟩
def i_nextPow_g : zG := [(139, i_bitsLen_c)]
theorem i_nextPow_eq : EqS i_nextPow_c i_nextPow_g h0 7 Tryz.f172 [2] [] := fun v => by kernel_rfl
def i_xorNext_c : Ctr := ⟨[.mu (.bx yu64)], [.val yu64], fun v => Srt.xorNext v.1⟩
theorem i_xorNext_eq : EqS i_xorNext_c [] h0 33 Tryz.f173 [2] [] := fun v => by kernel_rfl
def s_insSort_c : Ctr := ⟨[.mu (.vec .str), .ro yi64, .ro yi64], [], fun v => Srt.insSort s_less v.1 v.2.1 v.2.2.1⟩
def s_insSort_h : zH := fun i => if i = 1 then zL [(0, .vec .str), (1, yi64), (2, yi64), (6, yi64)] [zX 0 [(0, .vec .str)]] else if i = 1030002 then zC [zN [(0, .vec .str), (1, yi64), (2, yi64), (6, yi64)]] else if i = 4 then zL [(0, .vec .str), (1, yi64), (2, yi64), (6, yi64), (7, yi64)] [zX 2 [(0, .vec .str), (1, yi64), (2, yi64), (6, yi64)]] else if i = 1060005 then zC [zN [(0, .vec .str), (1, yi64), (2, yi64), (6, yi64), (7, yi64)]] else if i = 1040006 then zC [zN [(0, .vec .str), (1, yi64), (2, yi64), (6, yi64), (7, yi64)], zX 2 [(0, .vec .str), (1, yi64), (2, yi64), (6, yi64)]] else if i = 1010003 then zC [zN [(0, .vec .str), (1, yi64), (2, yi64), (6, yi64)], zX 0 [(0, .vec .str)]] else none
def s_insSort_g : zG := [(168, s_less_c)]
theorem s_insSort_eq : EqS s_insSort_c s_insSort_g s_insSort_h 49 Tryz.f162 [] [] := fun v => by kernel_rfl
def s_siftDown_c : Ctr := ⟨[.mu (.vec .str), .ro yi64, .ro yi64, .ro yi64], [], fun v => Srt.siftDown s_less v.1 v.2.1 v.2.2.1 v.2.2.2.1⟩
def s_siftDown_h : zH := fun i => if i = 1 then zL [(0, .vec .str), (2, yi64), (3, yi64), (8, yi64)] [zX 0 [(0, .vec .str)], zR [(0, .vec .str)]] else if i = 1050006 then zC [zR [(0, .vec .str)], zN [(0, .vec .str), (2, yi64), (3, yi64), (8, yi64), (9, yi64)]] else if i = 1030005 then zC [zN [(0, .vec .str), (2, yi64), (3, yi64), (8, yi64), (9, yi64)]] else if i = 1030004 then zC [zN [(0, .vec .str), (2, yi64), (3, yi64), (8, yi64), (9, yi64), (36, .bool)]] else if i = 1020003 then zC [zX 0 [(0, .vec .str)], zN [(0, .vec .str), (2, yi64), (3, yi64), (8, yi64), (9, yi64)]] else none
def s_siftDown_g : zG := [(168, s_less_c)]
theorem s_siftDown_eq : EqS s_siftDown_c s_siftDown_g s_siftDown_h 76 Tryz.f176 [] [] := fun v => by kernel_rfl
def s_heapSort_c : Ctr := ⟨[.mu (.vec .str), .ro yi64, .ro yi64], [], fun v => Srt.heapSort s_less v.1 v.2.1 v.2.2.1⟩
def s_heapSort_h : zH := fun i => if i = 8 then zL [(0, .vec .str), (6, yi64), (7, yi64), (10, yi64)] [zX 2 [(0, .vec .str)]] else if i = 1100009 then zC [zN [(0, .vec .str), (6, yi64), (7, yi64), (10, yi64)]] else if i = 1080010 then zC [zN [(0, .vec .str), (6, yi64), (7, yi64), (10, yi64)], zX 2 [(0, .vec .str)]] else if i = 1030007 then zC [zN [(0, .vec .str), (6, yi64), (7, yi64), (8, yi64)]] else if i = 4 then zL [(0, .vec .str), (6, yi64), (7, yi64), (8, yi64), (9, yi64)] [zX 0 [(0, .vec .str), (6, yi64), (7, yi64), (8, yi64)]] else if i = 1060005 then zC [zN [(0, .vec .str), (6, yi64), (7, yi64), (8, yi64), (9, yi64)]] else if i = 1040006 then zC [zN [(0, .vec .str), (6, yi64), (7, yi64), (8, yi64), (9, yi64)], zX 0 [(0, .vec .str), (6, yi64), (7, yi64), (8, yi64)]] else none
def s_heapSort_g : zG := [(176, s_siftDown_c)]
theorem s_heapSort_eq : EqS s_heapSort_c s_heapSort_g s_heapSort_h 56 Tryz.f163 [] [] := fun v => by kernel_rfl
def s_breakPat_c : Ctr := ⟨[.mu (.vec .str), .ro yi64, .ro yi64], [], fun v => Srt.breakPat v.1 v.2.1 v.2.2.1⟩
def s_breakPat_h : zH := fun i => if i = 5 then zL [(0, .vec .str), (1, yi64), (6, yi64), (7, .bx yu64), (8, yu64), (9, yi64)] [zX 0 [(0, .vec .str)]] else if i = 1070006 then zC [zN [(0, .vec .str), (1, yi64), (6, yi64), (7, .bx yu64), (8, yu64), (9, yi64)]] else if i = 1080010 then zC [zN [(0, .vec .str), (1, yi64), (6, yi64), (7, .bx yu64), (8, yu64), (9, yi64), (10, yi64)]] else if i = 1050007 then zC [zN [(0, .vec .str), (1, yi64), (6, yi64), (7, .bx yu64), (8, yu64), (9, yi64)], zX 0 [(0, .vec .str)]] else none
def s_breakPat_g : zG := [(172, i_nextPow_c), (173, i_xorNext_c)]
theorem s_breakPat_eq : EqS s_breakPat_c s_breakPat_g s_breakPat_h 65 Tryz.f164 [] [] := fun v => by kernel_rfl
def s_order2_c : Ctr := ⟨[.ro s1, .ro yi64, .ro yi64, .mu (.bx yi64)], [.val yi64, .val yi64], fun v => Srt.order2 s_less v.1 v.2.1 v.2.2.1 v.2.2.2.1⟩
def s_order2_h : zH := fun i => if i = 1010004 then zC [zR [(3, .bx yi64), (8, yi64), (9, yi64)], zN [(1, yi64), (2, yi64), (3, .bx yi64)]] else none
def s_order2_g : zG := [(168, s_less_c)]
theorem s_order2_eq : EqS s_order2_c s_order2_g s_order2_h 28 Tryz.f181 [8, 9] [] := fun v => by kernel_rfl
def s_median_c : Ctr := ⟨[.ro s1, .ro yi64, .ro yi64, .ro yi64, .mu (.bx yi64)], [.val yi64], fun v => Srt.median s_less v.1 v.2.1 v.2.2.1 v.2.2.2.1 v.2.2.2.2.1⟩
def s_median_g : zG := [(181, s_order2_c)]
theorem s_median_eq : EqS s_median_c s_median_g h0 36 Tryz.f178 [10] [] := fun v => by kernel_rfl
def s_medianAdj_c : Ctr := ⟨[.ro s1, .ro yi64, .mu (.bx yi64)], [.val yi64], fun v => Srt.medianAdj s_less v.1 v.2.1 v.2.2.1⟩
def s_medianAdj_g : zG := [(178, s_median_c)]
theorem s_medianAdj_eq : EqS s_medianAdj_c s_medianAdj_g h0 15 Tryz.f177 [6] [] := fun v => by kernel_rfl
def s_choosePiv_c : Ctr := ⟨[.ro s1, .ro yi64, .ro yi64], [.val yi64, .val yi64], fun v => Srt.choosePiv s_less v.1 v.2.1 v.2.2.1⟩
def s_choosePiv_h : zH := fun i => if i = 1060012 then zC [zN [(9, .bx yi64), (11, yi64)]] else if i = 1070011 then zC [zN [(0, s1), (9, .bx yi64), (10, yi64), (11, yi64), (12, yi64)]] else none
def s_choosePiv_g : zG := [(178, s_median_c), (177, s_medianAdj_c)]
theorem s_choosePiv_eq : EqS s_choosePiv_c s_choosePiv_g s_choosePiv_h 57 Tryz.f165 [6, 7] [] := fun v => by kernel_rfl
def s_revRange_c : Ctr := ⟨[.mu (.vec .str), .ro yi64, .ro yi64], [], fun v => Srt.revRange v.1 v.2.1 v.2.2.1⟩
def s_revRange_h : zH := fun i => if i = 2 then zL [(0, .vec .str), (6, yi64), (7, yi64)] [zX 0 [(0, .vec .str)]] else if i = 1020003 then zC [zN [(0, .vec .str), (6, yi64), (7, yi64)], zX 0 [(0, .vec .str)]] else none
theorem s_revRange_eq : EqS s_revRange_c [] s_revRange_h 32 Tryz.f166 [] [] := fun v => by kernel_rfl
def s_partIns_c : Ctr := ⟨[.mu (.vec .str), .ro yi64, .ro yi64], [.val .bool], fun v => Srt.partIns s_less v.1 v.2.1 v.2.2.1⟩
def s_partIns_h : zH := fun i => if i = 3 then zL [(0, .vec .str), (1, yi64), (2, yi64), (7, yi64), (8, yi64)] [zR [(0, .vec .str), (6, .bool)], zX 0 [(0, .vec .str)]] else if i = 1050004 then zC [zR [(0, .vec .str), (6, .bool)], zN [(0, .vec .str), (1, yi64), (2, yi64), (7, yi64), (8, yi64)]] else if i = 20 then zL [(0, .vec .str), (1, yi64), (2, yi64), (7, yi64), (8, yi64), (10, yi64)] [zX 6 [(0, .vec .str), (1, yi64), (2, yi64), (7, yi64), (8, yi64)]] else if i = 1220021 then zC [zX 6 [(0, .vec .str), (1, yi64), (2, yi64), (7, yi64), (8, yi64)], zN [(0, .vec .str), (1, yi64), (2, yi64), (7, yi64), (8, yi64), (10, yi64)]] else if i = 1220023 then zC [zX 6 [(0, .vec .str), (1, yi64), (2, yi64), (7, yi64), (8, yi64)], zN [(0, .vec .str), (1, yi64), (2, yi64), (7, yi64), (8, yi64), (10, yi64)]] else if i = 1200022 then zC [zN [(0, .vec .str), (1, yi64), (2, yi64), (7, yi64), (8, yi64), (10, yi64)], zX 6 [(0, .vec .str), (1, yi64), (2, yi64), (7, yi64), (8, yi64)]] else if i = 1120018 then zC [zN [(0, .vec .str), (1, yi64), (2, yi64), (7, yi64), (8, yi64)]] else if i = 14 then zL [(0, .vec .str), (1, yi64), (2, yi64), (7, yi64), (8, yi64), (9, yi64)] [zX 4 [(0, .vec .str), (1, yi64), (2, yi64), (7, yi64), (8, yi64)]] else if i = 1160015 then zC [zX 4 [(0, .vec .str), (1, yi64), (2, yi64), (7, yi64), (8, yi64)], zN [(0, .vec .str), (1, yi64), (2, yi64), (7, yi64), (8, yi64), (9, yi64)]] else if i = 1160017 then zC [zX 4 [(0, .vec .str), (1, yi64), (2, yi64), (7, yi64), (8, yi64)], zN [(0, .vec .str), (1, yi64), (2, yi64), (7, yi64), (8, yi64), (9, yi64)]] else if i = 1140016 then zC [zN [(0, .vec .str), (1, yi64), (2, yi64), (7, yi64), (8, yi64), (9, yi64)], zX 4 [(0, .vec .str), (1, yi64), (2, yi64), (7, yi64), (8, yi64)]] else if i = 1090011 then zC [zR [(0, .vec .str), (6, .bool)], zN [(0, .vec .str), (1, yi64), (2, yi64), (7, yi64), (8, yi64)]] else if i = 1070009 then zC [zR [(0, .vec .str), (6, .bool)], zN [(0, .vec .str), (1, yi64), (2, yi64), (7, yi64), (8, yi64)]] else if i = 1050007 then zC [zN [(0, .vec .str), (1, yi64), (2, yi64), (7, yi64), (8, yi64)]] else if i = 5 then zL [(0, .vec .str), (1, yi64), (2, yi64), (7, yi64), (8, yi64)] [zX 2 [(0, .vec .str), (1, yi64), (2, yi64), (7, yi64), (8, yi64)]] else if i = 1050006 then zC [zN [(0, .vec .str), (1, yi64), (2, yi64), (7, yi64), (8, yi64)], zX 2 [(0, .vec .str), (1, yi64), (2, yi64), (7, yi64), (8, yi64)]] else if i = 1030005 then zC [zN [(0, .vec .str), (1, yi64), (2, yi64), (7, yi64), (8, yi64)], zX 0 [(0, .vec .str)]] else none
def s_partIns_g : zG := [(168, s_less_c)]
theorem s_partIns_eq : EqS s_partIns_c s_partIns_g s_partIns_h 133 Tryz.f167 [6] [] := fun v => by kernel_rfl
def s_partEq_c : Ctr := ⟨[.mu (.vec .str), .ro yi64, .ro yi64, .ro yi64], [.val yi64], fun v => Srt.partEq s_less v.1 v.2.1 v.2.2.1 v.2.2.2.1⟩
def s_partEq_h : zH := fun i => if i = 100003 then zL [(0, .vec .str), (1, yi64), (9, yi64), (10, yi64)] [zX 0 [(0, .vec .str), (9, yi64)]] else if i = 1070008 then zC [zX 0 [(0, .vec .str), (9, yi64)], zN [(0, .vec .str), (1, yi64), (9, yi64), (10, yi64)]] else if i = 1050007 then zC [zN [(0, .vec .str), (1, yi64), (9, yi64), (10, yi64)]] else if i = 5 then zL [(0, .vec .str), (1, yi64), (9, yi64), (10, yi64)] [zX 4 [(0, .vec .str), (1, yi64), (9, yi64), (10, yi64)]] else if i = 1050006 then zC [zN [(0, .vec .str), (1, yi64), (9, yi64), (10, yi64)], zX 4 [(0, .vec .str), (1, yi64), (9, yi64), (10, yi64)]] else if i = 1030005 then zC [zN [(0, .vec .str), (1, yi64), (9, yi64), (10, yi64)]] else if i = 3 then zL [(0, .vec .str), (1, yi64), (9, yi64), (10, yi64)] [zX 2 [(0, .vec .str), (1, yi64), (9, yi64), (10, yi64)]] else if i = 1030004 then zC [zN [(0, .vec .str), (1, yi64), (9, yi64), (10, yi64)], zX 2 [(0, .vec .str), (1, yi64), (9, yi64), (10, yi64)]] else none
def s_partEq_g : zG := [(168, s_less_c)]
theorem s_partEq_eq : EqS s_partEq_c s_partEq_g s_partEq_h 84 Tryz.f169 [8] [] := fun v => by kernel_rfl
def s_partition_c : Ctr := ⟨[.mu (.vec .str), .ro yi64, .ro yi64, .ro yi64], [.val yi64, .val .bool], fun v => Srt.partition s_less v.1 v.2.1 v.2.2.1 v.2.2.2.1⟩
def s_partition_h : zH := fun i => if i = 1130021 then zC [zN [(0, .vec .str), (1, yi64), (11, yi64)]] else if i = 100013 then zL [(0, .vec .str), (1, yi64), (10, yi64), (11, yi64)] [zX 4 [(0, .vec .str), (1, yi64), (11, yi64)]] else if i = 1170018 then zC [zX 4 [(0, .vec .str), (1, yi64), (11, yi64)], zN [(0, .vec .str), (1, yi64), (10, yi64), (11, yi64)]] else if i = 1150017 then zC [zN [(0, .vec .str), (1, yi64), (10, yi64), (11, yi64)]] else if i = 15 then zL [(0, .vec .str), (1, yi64), (10, yi64), (11, yi64)] [zX 8 [(0, .vec .str), (1, yi64), (10, yi64), (11, yi64)]] else if i = 1150016 then zC [zN [(0, .vec .str), (1, yi64), (10, yi64), (11, yi64)], zX 8 [(0, .vec .str), (1, yi64), (10, yi64), (11, yi64)]] else if i = 1130015 then zC [zN [(0, .vec .str), (1, yi64), (10, yi64), (11, yi64)]] else if i = 13 then zL [(0, .vec .str), (1, yi64), (10, yi64), (11, yi64)] [zX 6 [(0, .vec .str), (1, yi64), (10, yi64), (11, yi64)]] else if i = 1130014 then zC [zN [(0, .vec .str), (1, yi64), (10, yi64), (11, yi64)], zX 6 [(0, .vec .str), (1, yi64), (10, yi64), (11, yi64)]] else if i = 1070010 then zC [zR [(0, .vec .str), (8, yi64), (9, .bool)], zN [(0, .vec .str), (1, yi64), (10, yi64), (11, yi64)]] else if i = 1050007 then zC [zN [(0, .vec .str), (1, yi64), (10, yi64), (11, yi64)]] else if i = 5 then zL [(0, .vec .str), (1, yi64), (10, yi64), (11, yi64)] [zX 2 [(0, .vec .str), (1, yi64), (10, yi64), (11, yi64)]] else if i = 1050006 then zC [zN [(0, .vec .str), (1, yi64), (10, yi64), (11, yi64)], zX 2 [(0, .vec .str), (1, yi64), (10, yi64), (11, yi64)]] else if i = 1030005 then zC [zN [(0, .vec .str), (1, yi64), (10, yi64), (11, yi64)]] else if i = 3 then zL [(0, .vec .str), (1, yi64), (10, yi64), (11, yi64)] [zX 0 [(0, .vec .str), (1, yi64), (10, yi64), (11, yi64)]] else if i = 1030004 then zC [zN [(0, .vec .str), (1, yi64), (10, yi64), (11, yi64)], zX 0 [(0, .vec .str), (1, yi64), (10, yi64), (11, yi64)]] else none
def s_partition_g : zG := [(168, s_less_c)]
theorem s_partition_eq : EqS s_partition_c s_partition_g s_partition_h 168 Tryz.f170 [8, 9] [] := fun v => by kernel_rfl
def s_pdq0_c (s_pdqR : tW → Int → Int → Int → Option (tW × Unit)) : Ctr := ⟨[.mu (.vec .str), .ro yi64, .ro yi64, .ro yi64], [], fun v => Srt.pdq0 s_less s_pdqR v.1 v.2.1 v.2.2.1 v.2.2.2.1⟩
def s_pdq0_h : zH := fun i => if i = 2 then zL [(0, .vec .str), (1, yi64), (2, yi64), (3, yi64), (8, .bool), (9, .bool)] [zR [(0, .vec .str)]] else if i = 1170020 then zC [zX 1 [(0, .vec .str), (1, yi64), (2, yi64), (3, yi64), (8, .bool), (9, .bool)], zN [(0, .vec .str), (1, yi64), (2, yi64), (3, yi64), (10, yi64), (11, yi64)]] else if i = 1170018 then zC [zN [(0, .vec .str), (1, yi64), (2, yi64), (3, yi64), (8, .bool), (9, .bool), (10, yi64), (11, yi64), (87, .bool)]] else if i = 1150017 then zC [zR [(0, .vec .str)], zN [(0, .vec .str), (1, yi64), (2, yi64), (3, yi64), (8, .bool), (9, .bool), (10, yi64), (11, yi64)]] else if i = 1150016 then zC [zN [(0, .vec .str), (1, yi64), (2, yi64), (3, yi64), (8, .bool), (9, .bool), (10, yi64), (11, yi64), (68, .bool)]] else if i = 1110015 then zC [zN [(0, .vec .str), (1, yi64), (2, yi64), (3, yi64), (8, .bool), (9, .bool), (10, yi64), (11, yi64), (12, yi64)]] else if i = 1070010 then zC [zN [(0, .vec .str), (1, yi64), (2, yi64), (3, yi64), (8, .bool), (9, .bool), (10, yi64)]] else if i = 1050007 then zC [zR [(0, .vec .str)], zN [(0, .vec .str), (1, yi64), (2, yi64), (3, yi64), (8, .bool), (9, .bool), (10, yi64)]] else if i = 1030005 then zC [zR [(0, .vec .str)], zN [(0, .vec .str), (1, yi64), (2, yi64), (3, yi64), (8, .bool), (9, .bool), (10, yi64)]] else none
def s_pdq0_g (s_pdqR : tW → Int → Int → Int → Option (tW × Unit)) : List (Nat × Ctr) := [(168, s_less_c), (162, s_insSort_c), (163, s_heapSort_c), (164, s_breakPat_c), (165, s_choosePiv_c), (166, s_revRange_c), (167, s_partIns_c), (169, s_partEq_c), (170, s_partition_c), (141, (s_pdqR_cR s_pdqR))]
theorem s_pdq0_eq (s_pdqR : tW → Int → Int → Int → Option (tW × Unit)) (v : PDen (s_pdq0_c s_pdqR).ps) : semF tbl (gam (s_pdq0_g s_pdqR)) s_pdq0_h fuelN 134 (bodyOf Tryz.f141) (s_pdq0_c s_pdqR).ps (s_pdq0_c s_pdqR).rs [] [] v = (s_pdq0_c s_pdqR).g v := by kernel_rfl
def s_sortG_c (s_pdqR : tW → Int → Int → Int → Option (tW × Unit)) : Ctr := ⟨[.mu (.vec .str)], [], fun v => Srt.sortG s_pdqR v.1⟩
def s_sortG_h : zH := fun i => none
def s_sortG_g (s_pdqR : tW → Int → Int → Int → Option (tW × Unit)) : List (Nat × Ctr) := [(139, i_bitsLen_c), (141, (s_pdqR_cR s_pdqR))]
theorem s_sortG_eq (s_pdqR : tW → Int → Int → Int → Option (tW × Unit)) (v : PDen (s_sortG_c s_pdqR).ps) : semF tbl (gam (s_sortG_g s_pdqR)) s_sortG_h fuelN 11 (bodyOf Tryz.f124) (s_sortG_c s_pdqR).ps (s_sortG_c s_pdqR).rs [] [] v = (s_sortG_c s_pdqR).g v := by kernel_rfl
def c_insSort_c : Ctr := ⟨[.mu (.vec y2), .ro yi64, .ro yi64, .ro (.clo 122 .unit)], [], fun v => Srt.insSort c_less v.1 v.2.1 v.2.2.1⟩
def c_insSort_h : zH := fun i => if i = 1 then some ⟨⟨[(0, .vec y2), (1, yi64), (2, yi64), (8, yi64)], [(3, 122)]⟩, [zX 0 [(0, .vec y2)]]⟩ else if i = 1030002 then some ⟨⟨[], []⟩, [(.normal, ⟨[(0, .vec y2), (1, yi64), (2, yi64), (8, yi64)], [(3, 122)]⟩)]⟩ else if i = 4 then some ⟨⟨[(0, .vec y2), (1, yi64), (2, yi64), (8, yi64), (9, yi64)], [(3, 122)]⟩, [((.exit 2), ⟨[(0, .vec y2), (1, yi64), (2, yi64), (8, yi64)], [(3, 122)]⟩)]⟩ else if i = 1060005 then some ⟨⟨[], []⟩, [(.normal, ⟨[(0, .vec y2), (1, yi64), (2, yi64), (8, yi64), (9, yi64)], [(3, 122)]⟩)]⟩ else if i = 1040006 then some ⟨⟨[], []⟩, [(.normal, ⟨[(0, .vec y2), (1, yi64), (2, yi64), (8, yi64), (9, yi64)], [(3, 122)]⟩), ((.exit 2), ⟨[(0, .vec y2), (1, yi64), (2, yi64), (8, yi64)], [(3, 122)]⟩)]⟩ else if i = 1010003 then some ⟨⟨[], []⟩, [(.normal, ⟨[(0, .vec y2), (1, yi64), (2, yi64), (8, yi64)], [(3, 122)]⟩), zX 0 [(0, .vec y2)]]⟩ else none
def c_insSort_g : zG := [(122, c_cmp_c)]
theorem c_insSort_eq : EqS c_insSort_c c_insSort_g c_insSort_h 53 Tryz.f152 [] [] := fun v => by kernel_rfl
def c_siftDown_c : Ctr := ⟨[.mu (.vec y2), .ro yi64, .ro yi64, .ro yi64, .ro (.clo 122 .unit)], [], fun v => Srt.siftDown c_less v.1 v.2.1 v.2.2.1 v.2.2.2.1⟩
def c_siftDown_h : zH := fun i => if i = 1 then some ⟨⟨[(0, .vec y2), (2, yi64), (3, yi64), (10, yi64)], [(4, 122)]⟩, [zX 0 [(0, .vec y2)], zR [(0, .vec y2)]]⟩ else if i = 1050006 then some ⟨⟨[], []⟩, [zR [(0, .vec y2)], (.normal, ⟨[(0, .vec y2), (2, yi64), (3, yi64), (10, yi64), (11, yi64)], [(4, 122)]⟩)]⟩ else if i = 1030005 then some ⟨⟨[], []⟩, [(.normal, ⟨[(0, .vec y2), (2, yi64), (3, yi64), (10, yi64), (11, yi64)], [(4, 122)]⟩)]⟩ else if i = 1030004 then some ⟨⟨[], []⟩, [(.normal, ⟨[(0, .vec y2), (2, yi64), (3, yi64), (10, yi64), (11, yi64), (40, .bool)], [(4, 122)]⟩)]⟩ else if i = 1020003 then some ⟨⟨[], []⟩, [zX 0 [(0, .vec y2)], (.normal, ⟨[(0, .vec y2), (2, yi64), (3, yi64), (10, yi64), (11, yi64)], [(4, 122)]⟩)]⟩ else none
def c_siftDown_g : zG := [(122, c_cmp_c)]
theorem c_siftDown_eq : EqS c_siftDown_c c_siftDown_g c_siftDown_h 82 Tryz.f171 [] [] := fun v => by kernel_rfl
def c_heapSort_c : Ctr := ⟨[.mu (.vec y2), .ro yi64, .ro yi64, .ro (.clo 122 .unit)], [], fun v => Srt.heapSort c_less v.1 v.2.1 v.2.2.1⟩
def c_heapSort_h : zH := fun i => if i = 8 then some ⟨⟨[(0, .vec y2), (8, yi64), (9, yi64), (12, yi64)], [(3, 122)]⟩, [zX 2 [(0, .vec y2)]]⟩ else if i = 1100009 then some ⟨⟨[], []⟩, [(.normal, ⟨[(0, .vec y2), (8, yi64), (9, yi64), (12, yi64)], [(3, 122)]⟩)]⟩ else if i = 1080010 then some ⟨⟨[], []⟩, [(.normal, ⟨[(0, .vec y2), (8, yi64), (9, yi64), (12, yi64)], [(3, 122)]⟩), zX 2 [(0, .vec y2)]]⟩ else if i = 1030007 then some ⟨⟨[], []⟩, [(.normal, ⟨[(0, .vec y2), (8, yi64), (9, yi64), (10, yi64)], [(3, 122)]⟩)]⟩ else if i = 4 then some ⟨⟨[(0, .vec y2), (8, yi64), (9, yi64), (10, yi64), (11, yi64)], [(3, 122)]⟩, [((.exit 0), ⟨[(0, .vec y2), (8, yi64), (9, yi64), (10, yi64)], [(3, 122)]⟩)]⟩ else if i = 1060005 then some ⟨⟨[], []⟩, [(.normal, ⟨[(0, .vec y2), (8, yi64), (9, yi64), (10, yi64), (11, yi64)], [(3, 122)]⟩)]⟩ else if i = 1040006 then some ⟨⟨[], []⟩, [(.normal, ⟨[(0, .vec y2), (8, yi64), (9, yi64), (10, yi64), (11, yi64)], [(3, 122)]⟩), ((.exit 0), ⟨[(0, .vec y2), (8, yi64), (9, yi64), (10, yi64)], [(3, 122)]⟩)]⟩ else none
def c_heapSort_g : zG := [(171, c_siftDown_c)]
theorem c_heapSort_eq : EqS c_heapSort_c c_heapSort_g c_heapSort_h 60 Tryz.f153 [] [] := fun v => by kernel_rfl
def c_breakPat_c : Ctr := ⟨[.mu (.vec y2), .ro yi64, .ro yi64, .ro (.clo 122 .unit)], [], fun v => Srt.breakPat v.1 v.2.1 v.2.2.1⟩
def c_breakPat_h : zH := fun i => if i = 5 then zL [(0, .vec y2), (1, yi64), (8, yi64), (9, .bx yu64), (10, yu64), (11, yi64)] [zX 0 [(0, .vec y2)]] else if i = 1070006 then zC [zN [(0, .vec y2), (1, yi64), (8, yi64), (9, .bx yu64), (10, yu64), (11, yi64)]] else if i = 1080010 then zC [zN [(0, .vec y2), (1, yi64), (8, yi64), (9, .bx yu64), (10, yu64), (11, yi64), (12, yi64)]] else if i = 1050007 then zC [zN [(0, .vec y2), (1, yi64), (8, yi64), (9, .bx yu64), (10, yu64), (11, yi64)], zX 0 [(0, .vec y2)]] else none
def c_breakPat_g : zG := [(172, i_nextPow_c), (173, i_xorNext_c)]
theorem c_breakPat_eq : EqS c_breakPat_c c_breakPat_g c_breakPat_h 67 Tryz.f154 [] [] := fun v => by kernel_rfl
def c_order2_c : Ctr := ⟨[.ro (.slice y2), .ro yi64, .ro yi64, .mu (.bx yi64), .ro (.clo 122 .unit)], [.val yi64, .val yi64], fun v => Srt.order2 c_less v.1 v.2.1 v.2.2.1 v.2.2.2.1⟩
def c_order2_h : zH := fun i => if i = 1010004 then zC [zR [(3, .bx yi64), (10, yi64), (11, yi64)], zN [(1, yi64), (2, yi64), (3, .bx yi64)]] else none
def c_order2_g : zG := [(122, c_cmp_c)]
theorem c_order2_eq : EqS c_order2_c c_order2_g c_order2_h 32 Tryz.f180 [10, 11] [] := fun v => by kernel_rfl
def c_median_c : Ctr := ⟨[.ro (.slice y2), .ro yi64, .ro yi64, .ro yi64, .mu (.bx yi64), .ro (.clo 122 .unit)], [.val yi64], fun v => Srt.median c_less v.1 v.2.1 v.2.2.1 v.2.2.2.1 v.2.2.2.2.1⟩
def c_median_g : zG := [(180, c_order2_c)]
theorem c_median_eq : EqS c_median_c c_median_g h0 41 Tryz.f175 [12] [] := fun v => by kernel_rfl
def c_medianAdj_c : Ctr := ⟨[.ro (.slice y2), .ro yi64, .mu (.bx yi64), .ro (.clo 122 .unit)], [.val yi64], fun v => Srt.medianAdj c_less v.1 v.2.1 v.2.2.1⟩
def c_medianAdj_g : zG := [(175, c_median_c)]
theorem c_medianAdj_eq : EqS c_medianAdj_c c_medianAdj_g h0 18 Tryz.f174 [8] [] := fun v => by kernel_rfl
def c_choosePiv_c : Ctr := ⟨[.ro (.slice y2), .ro yi64, .ro yi64, .ro (.clo 122 .unit)], [.val yi64, .val yi64], fun v => Srt.choosePiv c_less v.1 v.2.1 v.2.2.1⟩
def c_choosePiv_h : zH := fun i => if i = 1060012 then zC [zN [(11, .bx yi64), (13, yi64)]] else if i = 1070011 then some ⟨⟨[], []⟩, [(.normal, ⟨[(0, .slice y2), (11, .bx yi64), (12, yi64), (13, yi64), (14, yi64)], [(3, 122)]⟩)]⟩ else none
def c_choosePiv_g : zG := [(175, c_median_c), (174, c_medianAdj_c)]
theorem c_choosePiv_eq : EqS c_choosePiv_c c_choosePiv_g c_choosePiv_h 63 Tryz.f155 [8, 9] [] := fun v => by kernel_rfl
def c_revRange_c : Ctr := ⟨[.mu (.vec y2), .ro yi64, .ro yi64, .ro (.clo 122 .unit)], [], fun v => Srt.revRange v.1 v.2.1 v.2.2.1⟩
def c_revRange_h : zH := fun i => if i = 2 then zL [(0, .vec y2), (8, yi64), (9, yi64)] [zX 0 [(0, .vec y2)]] else if i = 1020003 then zC [zN [(0, .vec y2), (8, yi64), (9, yi64)], zX 0 [(0, .vec y2)]] else none
theorem c_revRange_eq : EqS c_revRange_c [] c_revRange_h 34 Tryz.f156 [] [] := fun v => by kernel_rfl
def c_partIns_c : Ctr := ⟨[.mu (.vec y2), .ro yi64, .ro yi64, .ro (.clo 122 .unit)], [.val .bool], fun v => Srt.partIns c_less v.1 v.2.1 v.2.2.1⟩
def c_partIns_h : zH := fun i => if i = 3 then some ⟨⟨[(0, .vec y2), (1, yi64), (2, yi64), (9, yi64), (10, yi64)], [(3, 122)]⟩, [zR [(0, .vec y2), (8, .bool)], zX 0 [(0, .vec y2)]]⟩ else if i = 1050004 then some ⟨⟨[], []⟩, [zR [(0, .vec y2), (8, .bool)], (.normal, ⟨[(0, .vec y2), (1, yi64), (2, yi64), (9, yi64), (10, yi64)], [(3, 122)]⟩)]⟩ else if i = 20 then some ⟨⟨[(0, .vec y2), (1, yi64), (2, yi64), (9, yi64), (10, yi64), (12, yi64)], [(3, 122)]⟩, [((.exit 6), ⟨[(0, .vec y2), (1, yi64), (2, yi64), (9, yi64), (10, yi64)], [(3, 122)]⟩)]⟩ else if i = 1220021 then some ⟨⟨[], []⟩, [((.exit 6), ⟨[(0, .vec y2), (1, yi64), (2, yi64), (9, yi64), (10, yi64)], [(3, 122)]⟩), (.normal, ⟨[(0, .vec y2), (1, yi64), (2, yi64), (9, yi64), (10, yi64), (12, yi64)], [(3, 122)]⟩)]⟩ else if i = 1220023 then some ⟨⟨[], []⟩, [((.exit 6), ⟨[(0, .vec y2), (1, yi64), (2, yi64), (9, yi64), (10, yi64)], [(3, 122)]⟩), (.normal, ⟨[(0, .vec y2), (1, yi64), (2, yi64), (9, yi64), (10, yi64), (12, yi64)], [(3, 122)]⟩)]⟩ else if i = 1200022 then some ⟨⟨[], []⟩, [(.normal, ⟨[(0, .vec y2), (1, yi64), (2, yi64), (9, yi64), (10, yi64), (12, yi64)], [(3, 122)]⟩), ((.exit 6), ⟨[(0, .vec y2), (1, yi64), (2, yi64), (9, yi64), (10, yi64)], [(3, 122)]⟩)]⟩ else if i = 1120018 then some ⟨⟨[], []⟩, [(.normal, ⟨[(0, .vec y2), (1, yi64), (2, yi64), (9, yi64), (10, yi64)], [(3, 122)]⟩)]⟩ else if i = 14 then some ⟨⟨[(0, .vec y2), (1, yi64), (2, yi64), (9, yi64), (10, yi64), (11, yi64)], [(3, 122)]⟩, [((.exit 4), ⟨[(0, .vec y2), (1, yi64), (2, yi64), (9, yi64), (10, yi64)], [(3, 122)]⟩)]⟩ else if i = 1160015 then some ⟨⟨[], []⟩, [((.exit 4), ⟨[(0, .vec y2), (1, yi64), (2, yi64), (9, yi64), (10, yi64)], [(3, 122)]⟩), (.normal, ⟨[(0, .vec y2), (1, yi64), (2, yi64), (9, yi64), (10, yi64), (11, yi64)], [(3, 122)]⟩)]⟩ else if i = 1160017 then some ⟨⟨[], []⟩, [((.exit 4), ⟨[(0, .vec y2), (1, yi64), (2, yi64), (9, yi64), (10, yi64)], [(3, 122)]⟩), (.normal, ⟨[(0, .vec y2), (1, yi64), (2, yi64), (9, yi64), (10, yi64), (11, yi64)], [(3, 122)]⟩)]⟩ else if i = 1140016 then some ⟨⟨[], []⟩, [(.normal, ⟨[(0, .vec y2), (1, yi64), (2, yi64), (9, yi64), (10, yi64), (11, yi64)], [(3, 122)]⟩), ((.exit 4), ⟨[(0, .vec y2), (1, yi64), (2, yi64), (9, yi64), (10, yi64)], [(3, 122)]⟩)]⟩ else if i = 1090011 then some ⟨⟨[], []⟩, [zR [(0, .vec y2), (8, .bool)], (.normal, ⟨[(0, .vec y2), (1, yi64), (2, yi64), (9, yi64), (10, yi64)], [(3, 122)]⟩)]⟩ else if i = 1070009 then some ⟨⟨[], []⟩, [zR [(0, .vec y2), (8, .bool)], (.normal, ⟨[(0, .vec y2), (1, yi64), (2, yi64), (9, yi64), (10, yi64)], [(3, 122)]⟩)]⟩ else if i = 1050007 then some ⟨⟨[], []⟩, [(.normal, ⟨[(0, .vec y2), (1, yi64), (2, yi64), (9, yi64), (10, yi64)], [(3, 122)]⟩)]⟩ else if i = 5 then some ⟨⟨[(0, .vec y2), (1, yi64), (2, yi64), (9, yi64), (10, yi64)], [(3, 122)]⟩, [((.exit 2), ⟨[(0, .vec y2), (1, yi64), (2, yi64), (9, yi64), (10, yi64)], [(3, 122)]⟩)]⟩ else if i = 1050006 then some ⟨⟨[], []⟩, [(.normal, ⟨[(0, .vec y2), (1, yi64), (2, yi64), (9, yi64), (10, yi64)], [(3, 122)]⟩), ((.exit 2), ⟨[(0, .vec y2), (1, yi64), (2, yi64), (9, yi64), (10, yi64)], [(3, 122)]⟩)]⟩ else if i = 1030005 then some ⟨⟨[], []⟩, [(.normal, ⟨[(0, .vec y2), (1, yi64), (2, yi64), (9, yi64), (10, yi64)], [(3, 122)]⟩), zX 0 [(0, .vec y2)]]⟩ else none
def c_partIns_g : zG := [(122, c_cmp_c)]
theorem c_partIns_eq : EqS c_partIns_c c_partIns_g c_partIns_h 141 Tryz.f157 [8] [] := fun v => by kernel_rfl
def c_partEq_c : Ctr := ⟨[.mu (.vec y2), .ro yi64, .ro yi64, .ro yi64, .ro (.clo 122 .unit)], [.val yi64], fun v => Srt.partEq c_less v.1 v.2.1 v.2.2.1 v.2.2.2.1⟩
def c_partEq_h : zH := fun i => if i = 100003 then some ⟨⟨[(0, .vec y2), (1, yi64), (11, yi64), (12, yi64)], [(4, 122)]⟩, [zX 0 [(0, .vec y2), (11, yi64)]]⟩ else if i = 1070008 then some ⟨⟨[], []⟩, [zX 0 [(0, .vec y2), (11, yi64)], (.normal, ⟨[(0, .vec y2), (1, yi64), (11, yi64), (12, yi64)], [(4, 122)]⟩)]⟩ else if i = 1050007 then some ⟨⟨[], []⟩, [(.normal, ⟨[(0, .vec y2), (1, yi64), (11, yi64), (12, yi64)], [(4, 122)]⟩)]⟩ else if i = 5 then some ⟨⟨[(0, .vec y2), (1, yi64), (11, yi64), (12, yi64)], [(4, 122)]⟩, [((.exit 4), ⟨[(0, .vec y2), (1, yi64), (11, yi64), (12, yi64)], [(4, 122)]⟩)]⟩ else if i = 1050006 then some ⟨⟨[], []⟩, [(.normal, ⟨[(0, .vec y2), (1, yi64), (11, yi64), (12, yi64)], [(4, 122)]⟩), ((.exit 4), ⟨[(0, .vec y2), (1, yi64), (11, yi64), (12, yi64)], [(4, 122)]⟩)]⟩ else if i = 1030005 then some ⟨⟨[], []⟩, [(.normal, ⟨[(0, .vec y2), (1, yi64), (11, yi64), (12, yi64)], [(4, 122)]⟩)]⟩ else if i = 3 then some ⟨⟨[(0, .vec y2), (1, yi64), (11, yi64), (12, yi64)], [(4, 122)]⟩, [((.exit 2), ⟨[(0, .vec y2), (1, yi64), (11, yi64), (12, yi64)], [(4, 122)]⟩)]⟩ else if i = 1030004 then some ⟨⟨[], []⟩, [(.normal, ⟨[(0, .vec y2), (1, yi64), (11, yi64), (12, yi64)], [(4, 122)]⟩), ((.exit 2), ⟨[(0, .vec y2), (1, yi64), (11, yi64), (12, yi64)], [(4, 122)]⟩)]⟩ else none
def c_partEq_g : zG := [(122, c_cmp_c)]
theorem c_partEq_eq : EqS c_partEq_c c_partEq_g c_partEq_h 90 Tryz.f158 [10] [] := fun v => by kernel_rfl
def c_partition_c : Ctr := ⟨[.mu (.vec y2), .ro yi64, .ro yi64, .ro yi64, .ro (.clo 122 .unit)], [.val yi64, .val .bool], fun v => Srt.partition c_less v.1 v.2.1 v.2.2.1 v.2.2.2.1⟩
def c_partition_h : zH := fun i => if i = 1130021 then zC [zN [(0, .vec y2), (1, yi64), (13, yi64)]] else if i = 100013 then some ⟨⟨[(0, .vec y2), (1, yi64), (12, yi64), (13, yi64)], [(4, 122)]⟩, [zX 4 [(0, .vec y2), (1, yi64), (13, yi64)]]⟩ else if i = 1170018 then some ⟨⟨[], []⟩, [zX 4 [(0, .vec y2), (1, yi64), (13, yi64)], (.normal, ⟨[(0, .vec y2), (1, yi64), (12, yi64), (13, yi64)], [(4, 122)]⟩)]⟩ else if i = 1150017 then some ⟨⟨[], []⟩, [(.normal, ⟨[(0, .vec y2), (1, yi64), (12, yi64), (13, yi64)], [(4, 122)]⟩)]⟩ else if i = 15 then some ⟨⟨[(0, .vec y2), (1, yi64), (12, yi64), (13, yi64)], [(4, 122)]⟩, [((.exit 8), ⟨[(0, .vec y2), (1, yi64), (12, yi64), (13, yi64)], [(4, 122)]⟩)]⟩ else if i = 1150016 then some ⟨⟨[], []⟩, [(.normal, ⟨[(0, .vec y2), (1, yi64), (12, yi64), (13, yi64)], [(4, 122)]⟩), ((.exit 8), ⟨[(0, .vec y2), (1, yi64), (12, yi64), (13, yi64)], [(4, 122)]⟩)]⟩ else if i = 1130015 then some ⟨⟨[], []⟩, [(.normal, ⟨[(0, .vec y2), (1, yi64), (12, yi64), (13, yi64)], [(4, 122)]⟩)]⟩ else if i = 13 then some ⟨⟨[(0, .vec y2), (1, yi64), (12, yi64), (13, yi64)], [(4, 122)]⟩, [((.exit 6), ⟨[(0, .vec y2), (1, yi64), (12, yi64), (13, yi64)], [(4, 122)]⟩)]⟩ else if i = 1130014 then some ⟨⟨[], []⟩, [(.normal, ⟨[(0, .vec y2), (1, yi64), (12, yi64), (13, yi64)], [(4, 122)]⟩), ((.exit 6), ⟨[(0, .vec y2), (1, yi64), (12, yi64), (13, yi64)], [(4, 122)]⟩)]⟩ else if i = 1070010 then some ⟨⟨[], []⟩, [zR [(0, .vec y2), (10, yi64), (11, .bool)], (.normal, ⟨[(0, .vec y2), (1, yi64), (12, yi64), (13, yi64)], [(4, 122)]⟩)]⟩ else if i = 1050007 then some ⟨⟨[], []⟩, [(.normal, ⟨[(0, .vec y2), (1, yi64), (12, yi64), (13, yi64)], [(4, 122)]⟩)]⟩ else if i = 5 then some ⟨⟨[(0, .vec y2), (1, yi64), (12, yi64), (13, yi64)], [(4, 122)]⟩, [((.exit 2), ⟨[(0, .vec y2), (1, yi64), (12, yi64), (13, yi64)], [(4, 122)]⟩)]⟩ else if i = 1050006 then some ⟨⟨[], []⟩, [(.normal, ⟨[(0, .vec y2), (1, yi64), (12, yi64), (13, yi64)], [(4, 122)]⟩), ((.exit 2), ⟨[(0, .vec y2), (1, yi64), (12, yi64), (13, yi64)], [(4, 122)]⟩)]⟩ else if i = 1030005 then some ⟨⟨[], []⟩, [(.normal, ⟨[(0, .vec y2), (1, yi64), (12, yi64), (13, yi64)], [(4, 122)]⟩)]⟩ else if i = 3 then some ⟨⟨[(0, .vec y2), (1, yi64), (12, yi64), (13, yi64)], [(4, 122)]⟩, [((.exit 0), ⟨[(0, .vec y2), (1, yi64), (12, yi64), (13, yi64)], [(4, 122)]⟩)]⟩ else if i = 1030004 then some ⟨⟨[], []⟩, [(.normal, ⟨[(0, .vec y2), (1, yi64), (12, yi64), (13, yi64)], [(4, 122)]⟩), ((.exit 0), ⟨[(0, .vec y2), (1, yi64), (12, yi64), (13, yi64)], [(4, 122)]⟩)]⟩ else none
def c_partition_g : zG := [(122, c_cmp_c)]
theorem c_partition_eq : EqS c_partition_c c_partition_g c_partition_h 178 Tryz.f159 [10, 11] [] := fun v => by kernel_rfl
def c_pdq0_c (c_pdqR : tC → Int → Int → Int → Option (tC × Unit)) : Ctr := ⟨[.mu (.vec y2), .ro yi64, .ro yi64, .ro yi64, .ro (.clo 122 .unit)], [], fun v => Srt.pdq0 c_less c_pdqR v.1 v.2.1 v.2.2.1 v.2.2.2.1⟩
def c_pdq0_h : zH := fun i => if i = 2 then some ⟨⟨[(0, .vec y2), (1, yi64), (2, yi64), (3, yi64), (10, .bool), (11, .bool)], [(4, 122)]⟩, [zR [(0, .vec y2)]]⟩ else if i = 1170020 then some ⟨⟨[], []⟩, [((.exit 1), ⟨[(0, .vec y2), (1, yi64), (2, yi64), (3, yi64), (10, .bool), (11, .bool)], [(4, 122)]⟩), (.normal, ⟨[(0, .vec y2), (1, yi64), (2, yi64), (3, yi64), (12, yi64), (13, yi64)], [(4, 122)]⟩)]⟩ else if i = 1170018 then some ⟨⟨[], []⟩, [(.normal, ⟨[(0, .vec y2), (1, yi64), (2, yi64), (3, yi64), (10, .bool), (11, .bool), (12, yi64), (13, yi64), (97, .bool)], [(4, 122)]⟩)]⟩ else if i = 1150017 then some ⟨⟨[], []⟩, [zR [(0, .vec y2)], (.normal, ⟨[(0, .vec y2), (1, yi64), (2, yi64), (3, yi64), (10, .bool), (11, .bool), (12, yi64), (13, yi64)], [(4, 122)]⟩)]⟩ else if i = 1150016 then some ⟨⟨[], []⟩, [(.normal, ⟨[(0, .vec y2), (1, yi64), (2, yi64), (3, yi64), (10, .bool), (11, .bool), (12, yi64), (13, yi64), (75, .bool)], [(4, 122)]⟩)]⟩ else if i = 1110015 then some ⟨⟨[], []⟩, [(.normal, ⟨[(0, .vec y2), (1, yi64), (2, yi64), (3, yi64), (10, .bool), (11, .bool), (12, yi64), (13, yi64), (14, yi64)], [(4, 122)]⟩)]⟩ else if i = 1070010 then some ⟨⟨[], []⟩, [(.normal, ⟨[(0, .vec y2), (1, yi64), (2, yi64), (3, yi64), (10, .bool), (11, .bool), (12, yi64)], [(4, 122)]⟩)]⟩ else if i = 1050007 then some ⟨⟨[], []⟩, [zR [(0, .vec y2)], (.normal, ⟨[(0, .vec y2), (1, yi64), (2, yi64), (3, yi64), (10, .bool), (11, .bool), (12, yi64)], [(4, 122)]⟩)]⟩ else if i = 1030005 then some ⟨⟨[], []⟩, [zR [(0, .vec y2)], (.normal, ⟨[(0, .vec y2), (1, yi64), (2, yi64), (3, yi64), (10, .bool), (11, .bool), (12, yi64)], [(4, 122)]⟩)]⟩ else none
def c_pdq0_g (c_pdqR : tC → Int → Int → Int → Option (tC × Unit)) : List (Nat × Ctr) := [(122, c_cmp_c), (152, c_insSort_c), (153, c_heapSort_c), (154, c_breakPat_c), (155, c_choosePiv_c), (156, c_revRange_c), (157, c_partIns_c), (158, c_partEq_c), (159, c_partition_c), (138, (c_pdqR_cR c_pdqR))]
theorem c_pdq0_eq (c_pdqR : tC → Int → Int → Int → Option (tC × Unit)) (v : PDen (c_pdq0_c c_pdqR).ps) : semF tbl (gam (c_pdq0_g c_pdqR)) c_pdq0_h fuelN 148 (bodyOf Tryz.f138) (c_pdq0_c c_pdqR).ps (c_pdq0_c c_pdqR).rs [] [] v = (c_pdq0_c c_pdqR).g v := by kernel_rfl
def c_sortG_c (c_pdqR : tC → Int → Int → Int → Option (tC × Unit)) : Ctr := ⟨[.mu (.vec y2), .ro (.clo 122 .unit)], [], fun v => Srt.sortG c_pdqR v.1⟩
def c_sortG_h : zH := fun i => none
def c_sortG_g (c_pdqR : tC → Int → Int → Int → Option (tC × Unit)) : List (Nat × Ctr) := [(139, i_bitsLen_c), (138, (c_pdqR_cR c_pdqR))]
theorem c_sortG_eq (c_pdqR : tC → Int → Int → Int → Option (tC × Unit)) (v : PDen (c_sortG_c c_pdqR).ps) : semF tbl (gam (c_sortG_g c_pdqR)) c_sortG_h fuelN 14 (bodyOf Tryz.f121) (c_sortG_c c_pdqR).ps (c_sortG_c c_pdqR).rs [] [] v = (c_sortG_c c_pdqR).g v := by kernel_rfl
section
variable [Inhabited FuelW]
def refSame_s4 (a0 : tC) (a1 : tC) (a5 : Int) : Option ((tC × tC × Int × Unit) ⊕ ((Bool × Unit) ⊕ Unit)) :=
 ((show Option ((tC × tC × Int × Unit) ⊕ Unit) from
 bif (decide (a5 < (a0.length : Int))) then
 some (.inl (a0, a1, a5, ()))
 else
 some (.inr ())).bind fun y6 =>
 (match y6 with
 | .inl y6 =>
 ((show Option ((Bool × Unit) ⊕ (tC × tC × Int × Unit)) from
 ((lk y6.1 y6.2.2.1).bind fun x8 =>
 ((lk y6.2.1 y6.2.2.1).bind fun x9 =>
 bif (!((decide (x8.1 = x9.1) && decide (x8.2 = x9.2)))) then
 some (.inl (false, ()))
 else
 some (.inr (y6.1, y6.2.1, y6.2.2.1, ()))))).bind fun y10 =>
 (match y10 with
 | .inl y10 =>
 some (.inr (.inl (y10.1, ())))
 | .inr y10 =>
 some (.inl (y10.1, y10.2.1, (IntKind.i64.wrap (y10.2.2.1 + 1)), ()))))
 | .inr y6 =>
 some (.inr (.inr ()))))
def refSame (p0 : tC) (p1 : tC) : Option (Unit × Bool × Unit) :=
 ((show Option ((Bool × Unit) ⊕ (tC × tC × Unit)) from
 bif ((p0.length : Int) != (p1.length : Int)) then
 some (.inl (false, ()))
 else
 some (.inr (p0, p1, ()))).bind fun y2 =>
 (match y2 with
 | .inl y2 =>
 some ((), y2.1, ())
 | .inr y2 =>
 ((iterN (fun x => refSame_s4 x.1 x.2.1 x.2.2.1) fuN (y2.1, y2.2.1, (0 : Int), ())).bind fun y11 =>
 (match y11 with
 | .inl y11 =>
 some ((), y11.1, ())
 | .inr y11 =>
 some ((), true, ())))))
def refSame_c : Ctr := ⟨[.ro (.slice y2), .ro (.slice y2)], [.val .bool], fun v => refSame v.1 v.2.1⟩
def refSame_h : zH := fun i => if i = 4 then zL [(0, .slice y2), (1, .slice y2), (5, yi64)] [zR [(4, .bool)], zX 0 []] else if i = 1060005 then zC [zR [(4, .bool)], zN [(0, .slice y2), (1, .slice y2), (5, yi64)]] else if i = 1040006 then zC [zN [(0, .slice y2), (1, .slice y2), (5, yi64)], zX 0 []] else if i = 1010003 then zC [zR [(4, .bool)], zN [(0, .slice y2), (1, .slice y2)]] else none
theorem refSame_eq : EqB refSame_c [] refSame_h 26 Tryz.f54 [4] [] := fun v => by kernel_rfl
def refClipped_s2 (a0 : tC) (a3 : tC) (a4 : Int) : Option ((tC × tC × Int × Unit) ⊕ (tC × Unit)) :=
 ((show Option ((tC × tC × Int × Unit) ⊕ (tC × Unit)) from
 bif (decide (a4 < (a0.length : Int))) then
 some (.inl (a0, a3, a4, ()))
 else
 some (.inr (a3, ()))).bind fun y4 =>
 (match y4 with
 | .inl y4 =>
 ((show Option (tC × tC × Int × Unit) from
 ((lk y4.1 y4.2.2.1).bind fun x6 =>
 ((show Option (tC × tC × Int × (Int × Int) × Unit) from
 bif (decide (x6.1 < 0)) then
 some (y4.1, y4.2.1, y4.2.2.1, ((0 : Int), x6.2), ())
 else
 some (y4.1, y4.2.1, y4.2.2.1, x6, ())).bind fun y8 =>
 ((show Option (tC × tC × Int × (Int × Int) × Unit) from
 bif (decide (y8.2.2.2.1.2 > 1114111)) then
 some (y8.1, y8.2.1, y8.2.2.1, (y8.2.2.2.1.1, (1114111 : Int)), ())
 else
 some (y8.1, y8.2.1, y8.2.2.1, y8.2.2.2.1, ())).bind fun y10 =>
 bif (decide (y10.2.2.2.1.1 ≤ y10.2.2.2.1.2)) then
 bif (roomOk (y10.2.1.length + [y10.2.2.2.1].length) 8) then
 some (y10.1, (y10.2.1 ++ [y10.2.2.2.1]), y10.2.2.1, ())
 else none
 else
 some (y10.1, y10.2.1, y10.2.2.1, ()))))).bind fun y11 =>
 some (.inl (y11.1, y11.2.1, (IntKind.i64.wrap (y11.2.2.1 + 1)), ())))
 | .inr y4 =>
 some (.inr (y4.1, ()))))
def refClipped (p0 : tC) : Option (Unit × tC × Unit) :=
 ((iterN (fun x => refClipped_s2 x.1 x.2.1 x.2.2.1) fuN (p0, ([] : tC), (0 : Int), ())).bind fun y12 =>
 some ((), y12.1, ()))
def refClipped_c : Ctr := ⟨[.ro (.slice y2)], [.val (.slice y2)], fun v => refClipped v.1⟩
def refClipped_h : zH := fun i => if i = 3 then zL [(0, .slice y2), (3, .vec y2), (4, yi64)] [zX 0 [(3, .vec y2)]] else if i = 1050004 then zC [zN [(0, .slice y2), (3, .vec y2), (4, yi64)]] else if i = 1080010 then zC [zN [(0, .slice y2), (3, .vec y2), (4, yi64), (5, .bx y2)]] else if i = 1060008 then zC [zN [(0, .slice y2), (3, .vec y2), (4, yi64), (5, .bx y2)]] else if i = 1030005 then zC [zN [(0, .slice y2), (3, .vec y2), (4, yi64)], zX 0 [(3, .vec y2)]] else none
theorem refClipped_eq : EqB refClipped_c [] refClipped_h 34 Tryz.f76 [2] [] := fun v => by kernel_rfl
def refSorted0_s8 (a3 : tC) (a4 : tC) (a5 : tC) (a6 : Int) (a7 : Int) : Option ((tC × tC × tC × Int × Int × Unit) ⊕ (tC × Unit)) :=
 ((show Option ((tC × tC × tC × Int × Int × Unit) ⊕ (tC × Unit)) from
 bif (decide (a6 < (a3.length : Int))) then
 some (.inl (a3, a4, a5, a6, a7, ()))
 else
 bif (decide (a7 < (a4.length : Int))) then
 some (.inl (a3, a4, a5, a6, a7, ()))
 else
 some (.inr (a5, ()))).bind fun y10 =>
 (match y10 with
 | .inl y10 =>
 ((show Option (tC × tC × tC × Int × Int × Bool × Unit) from
 bif (y10.2.2.2.2.1 == (y10.2.1.length : Int)) then
 some (y10.1, y10.2.1, y10.2.2.1, y10.2.2.2.1, y10.2.2.2.2.1, true, ())
 else
 bif (decide (y10.2.2.2.1 < (y10.1.length : Int))) then
 ((lk y10.1 y10.2.2.2.1).bind fun x12 =>
 ((lk y10.2.1 y10.2.2.2.2.1).bind fun x13 =>
 some (y10.1, y10.2.1, y10.2.2.1, y10.2.2.2.1, y10.2.2.2.2.1, (decide (x12.1 ≤ x13.1)), ())))
 else
 some (y10.1, y10.2.1, y10.2.2.1, y10.2.2.2.1, y10.2.2.2.2.1, false, ())).bind fun y14 =>
 bif y14.2.2.2.2.2.1 then
 ((lk y14.1 y14.2.2.2.1).bind fun x15 =>
 bif (roomOk (y14.2.2.1.length + [x15].length) 8) then
 some (.inl (y14.1, y14.2.1, (y14.2.2.1 ++ [x15]), (IntKind.i64.wrap (y14.2.2.2.1 + 1)), y14.2.2.2.2.1, ()))
 else none)
 else
 ((lk y14.2.1 y14.2.2.2.2.1).bind fun x16 =>
 bif (roomOk (y14.2.2.1.length + [x16].length) 8) then
 some (.inl (y14.1, y14.2.1, (y14.2.2.1 ++ [x16]), y14.2.2.2.1, (IntKind.i64.wrap (y14.2.2.2.2.1 + 1)), ()))
 else none))
 | .inr y10 =>
 some (.inr (y10.1, ()))))
def refSorted0 (refSorted : tC → Option (Unit × tC × Unit)) (p0 : tC) : Option (Unit × tC × Unit) :=
 ((show Option ((tC × Unit) ⊕ (tC × Unit)) from
 bif (decide ((p0.length : Int) < 2)) then
 some (.inl (p0, ()))
 else
 some (.inr (p0, ()))).bind fun y2 =>
 (match y2 with
 | .inl y2 =>
 some ((), y2.1, ())
 | .inr y2 =>
 bif ((2 : Int) != 0) then
 bif (inB (0 : Int) (IntKind.i64.wrap (Int.tdiv (y2.1.length : Int) (2 : Int))) y2.1.length) then
 let v3 := (cut y2.1 (0 : Int) (IntKind.i64.wrap (Int.tdiv (y2.1.length : Int) (2 : Int))))
 ((refSorted v3).bind fun r4 =>
 bif ((2 : Int) != 0) then
 bif (inB (IntKind.i64.wrap (Int.tdiv (y2.1.length : Int) (2 : Int))) (y2.1.length : Int) y2.1.length) then
 let v5 := (cut y2.1 (IntKind.i64.wrap (Int.tdiv (y2.1.length : Int) (2 : Int))) (y2.1.length : Int))
 ((refSorted v5).bind fun r6 =>
 ((iterN (fun x => refSorted0_s8 x.1 x.2.1 x.2.2.1 x.2.2.2.1 x.2.2.2.2.1) fuN (r4.2.1, r6.2.1, ([] : tC), (0 : Int), (0 : Int), ())).bind fun y17 =>
 some ((), y17.1, ())))
 else none
 else none)
 else none
 else none))
def refSorted0_c (refSorted : tC → Option (Unit × tC × Unit)) : Ctr := ⟨[.ro (.slice y2)], [.val (.slice y2)], fun v => refSorted0 refSorted v.1⟩
def refSorted0_h : zH := fun i => if i = 6 then zL [(3, .slice y2), (4, .slice y2), (5, .vec y2), (6, yi64), (7, yi64)] [zX 0 [(5, .vec y2)]] else if i = 1070008 then zC [zN [(3, .slice y2), (4, .slice y2), (5, .vec y2), (6, yi64), (7, yi64), (56, .bool)]] else if i = 1060007 then zC [zN [(3, .slice y2), (4, .slice y2), (5, .vec y2), (6, yi64), (7, yi64)], zX 0 [(5, .vec y2)]] else if i = 1010003 then zC [zR [(2, .slice y2)], zN [(0, .slice y2)]] else none
def refSorted0_g (refSorted : tC → Option (Unit × tC × Unit)) : List (Nat × Ctr) := [(75, (refSorted_cR refSorted))]
theorem refSorted0_eq (refSorted : tC → Option (Unit × tC × Unit)) (v : PDen (refSorted0_c refSorted).ps) : semF tbl (gam (refSorted0_g refSorted)) refSorted0_h fuN 76 (bodyOf Tryz.f75) (refSorted0_c refSorted).ps (refSorted0_c refSorted).rs [2] [] v = (refSorted0_c refSorted).g v := by kernel_rfl
def refSortedN : Nat → tC → Option (Unit × tC × Unit)
  | 0 => fun _ => none
  | k + 1 => refSorted0 (refSortedN k)
def refSorted (l : tC) : Option (Unit × tC × Unit) := refSortedN (l.length + 1) l
def refSorted_c : Ctr := refSorted_cR refSorted
def refNorm_s10 (a3 : tC) (a4 : tC) (a5 : Int) (a6 : (Int × Int)) : Option ((tC × tC × Int × (Int × Int) × Unit) ⊕ (tC × tC × Int × (Int × Int) × Unit)) :=
 ((show Option ((tC × tC × Int × (Int × Int) × Unit) ⊕ (tC × tC × Int × (Int × Int) × Unit)) from
 bif (decide (a5 < (a3.length : Int))) then
 ((lk a3 a5).bind fun x12 =>
 bif (decide (x12.1 ≤ (IntKind.i32.wrap (a6.2 + 1)))) then
 some (.inl (a3, a4, a5, a6, ()))
 else
 some (.inr (a3, a4, a5, a6, ())))
 else
 some (.inr (a3, a4, a5, a6, ()))).bind fun y13 =>
 (match y13 with
 | .inl y13 =>
 ((show Option (tC × tC × Int × (Int × Int) × Unit) from
 ((lk y13.1 y13.2.2.1).bind fun x15 =>
 bif (decide (x15.2 > y13.2.2.2.1.2)) then
 ((lk y13.1 y13.2.2.1).bind fun x16 =>
 some (y13.1, y13.2.1, y13.2.2.1, (y13.2.2.2.1.1, x16.2), ()))
 else
 some (y13.1, y13.2.1, y13.2.2.1, y13.2.2.2.1, ()))).bind fun y17 =>
 some (.inl (y17.1, y17.2.1, (IntKind.i64.wrap (y17.2.2.1 + 1)), y17.2.2.2.1, ())))
 | .inr y13 =>
 some (.inr (y13.1, y13.2.1, y13.2.2.1, y13.2.2.2.1, ()))))
def refNorm_s4 (a3 : tC) (a4 : tC) (a5 : Int) : Option ((tC × tC × Int × Unit) ⊕ (tC × Unit)) :=
 ((show Option ((tC × tC × Int × Unit) ⊕ (tC × Unit)) from
 bif (decide (a5 < (a3.length : Int))) then
 some (.inl (a3, a4, a5, ()))
 else
 some (.inr (a4, ()))).bind fun y6 =>
 (match y6 with
 | .inl y6 =>
 ((lk y6.1 y6.2.2.1).bind fun x7 =>
 ((show Option (tC × tC × Int × (Int × Int) × Unit) from
 ((iterN (fun x => refNorm_s10 x.1 x.2.1 x.2.2.1 x.2.2.2.1) fuN (y6.1, y6.2.1, (IntKind.i64.wrap (y6.2.2.1 + 1)), x7, ())).bind fun y18 =>
 some (y18.1, y18.2.1, y18.2.2.1, y18.2.2.2.1, ()))).bind fun y19 =>
 bif (roomOk (y19.2.1.length + [y19.2.2.2.1].length) 8) then
 some (.inl (y19.1, (y19.2.1 ++ [y19.2.2.2.1]), y19.2.2.1, ()))
 else none))
 | .inr y6 =>
 some (.inr (y6.1, ()))))
def refNorm (p0 : tC) : Option (Unit × tC × Unit) :=
 ((refClipped p0).bind fun r1 =>
 ((refSorted r1.2.1).bind fun r2 =>
 ((iterN (fun x => refNorm_s4 x.1 x.2.1 x.2.2.1) fuN (r2.2.1, ([] : tC), (0 : Int), ())).bind fun y20 =>
 some ((), y20.1, ()))))
def refNorm_c : Ctr := ⟨[.ro (.slice y2)], [.own (.vec y2)], fun v => refNorm v.1⟩
def refNorm_h : zH := fun i => if i = 4 then zL [(3, .slice y2), (4, .vec y2), (5, yi64)] [zX 0 [(4, .vec y2)]] else if i = 1070011 then zC [zN [(3, .slice y2), (4, .vec y2), (5, yi64), (6, .bx y2)]] else if i = 7 then zL [(3, .slice y2), (4, .vec y2), (5, yi64), (6, .bx y2)] [zX 2 [(3, .slice y2), (4, .vec y2), (5, yi64), (6, .bx y2)]] else if i = 1080010 then zC [zN [(3, .slice y2), (4, .vec y2), (5, yi64), (6, .bx y2)]] else if i = 1070008 then zC [zN [(3, .slice y2), (4, .vec y2), (5, yi64), (6, .bx y2)], zX 2 [(3, .slice y2), (4, .vec y2), (5, yi64), (6, .bx y2)]] else if i = 1040005 then zC [zN [(3, .slice y2), (4, .vec y2), (5, yi64)], zX 0 [(4, .vec y2)]] else none
def refNorm_g : zG := [(75, refSorted_c), (76, refClipped_c)]
theorem refNorm_eq : EqB refNorm_c refNorm_g refNorm_h 56 Tryz.f56 [2] [] := fun v => by kernel_rfl
def rNorm_s3 (a3 : tC) (a10 : tC) (a11 : Int) (a12 : Int) : Option ((tC × tC × Int × Int × Unit) ⊕ (tC × Unit)) :=
 bif (decide (a12 < a11)) then
 ((lk a10 a12).bind fun x4 =>
 let v5 := (decide ((if (0 : Int) > x4.1 then (0 : Int) else x4.1) ≤ (if (1114111 : Int) < x4.2 then (1114111 : Int) else x4.2)))
 bif v5 then
 bif (roomOk (a3.length + [((if (0 : Int) > x4.1 then (0 : Int) else x4.1), (if (1114111 : Int) < x4.2 then (1114111 : Int) else x4.2))].length) 8) then
 let l6 := (a3 ++ [((if (0 : Int) > x4.1 then (0 : Int) else x4.1), (if (1114111 : Int) < x4.2 then (1114111 : Int) else x4.2))])
 some (.inl (l6, a10, a11, (IntKind.i64.wrap (a12 + 1)), ()))
 else none
 else
 some (.inl (a3, a10, a11, (IntKind.i64.wrap (a12 + 1)), ())))
 else
 some (.inr (a3, ()))
def rNorm_s11 (a6 : tC) (a36 : tC) (a37 : Int) (a38 : Int) : Option ((tC × tC × Int × Int × Unit) ⊕ (tC × Unit)) :=
 bif (decide (a38 < a37)) then
 ((lk a36 a38).bind fun _x12 =>
 ((lk a36 a38).bind fun x13 =>
 ((show Option (tC × (Int × Int) × Int × tC × Int × Int × Bool × Unit) from
 bif (decide ((a6.length : Int) > 0)) then
 ((lk a6 (IntKind.i64.wrap ((a6.length : Int) - 1))).bind fun _x15 =>
 ((lk a6 (IntKind.i64.wrap ((a6.length : Int) - 1))).bind fun x16 =>
 some (a6, x13, (a6.length : Int), a36, a37, a38, (decide (x13.1 ≤ (IntKind.i32.wrap (x16.2 + 1)))), ())))
 else
 some (a6, x13, (a6.length : Int), a36, a37, a38, false, ())).bind fun y17 =>
 bif y17.2.2.2.2.2.2.1 then
 ((lk y17.1 (IntKind.i64.wrap (y17.2.2.1 - 1))).bind fun _x18 =>
 ((lk y17.1 (IntKind.i64.wrap (y17.2.2.1 - 1))).bind fun x19 =>
 ((lk y17.1 (IntKind.i64.wrap (y17.2.2.1 - 1))).bind fun _x20 =>
 ((lk y17.1 (IntKind.i64.wrap (y17.2.2.1 - 1))).bind fun x21 =>
 let l22 := (y17.1.set (IntKind.i64.wrap (y17.2.2.1 - 1)).toNat (x21.1, (if y17.2.1.2 > x19.2 then y17.2.1.2 else x19.2)))
 some (.inl (l22, y17.2.2.2.1, y17.2.2.2.2.1, (IntKind.i64.wrap (y17.2.2.2.2.2.1 + 1)), ()))))))
 else
 bif (roomOk (y17.1.length + [y17.2.1].length) 8) then
 some (.inl ((y17.1 ++ [y17.2.1]), y17.2.2.2.1, y17.2.2.2.2.1, (IntKind.i64.wrap (y17.2.2.2.2.2.1 + 1)), ()))
 else none)))
 else
 some (.inr (a6, ()))
def rNorm (p0 : tC) : Option (Unit × tC × Unit) :=
 ((show Option (tC × Unit) from
 ((iterN (fun x => rNorm_s3 x.1 x.2.1 x.2.2.1 x.2.2.2.1) fuN (([] : tC), p0, (p0.length : Int), (0 : Int), ())).bind fun y7 =>
 some (y7.1, ()))).bind fun y8 =>
 ((sortF y8.1).bind fun r9 =>
 ((iterN (fun x => rNorm_s11 x.1 x.2.1 x.2.2.1 x.2.2.2.1) fuN (([] : tC), r9.1, (r9.1.length : Int), (0 : Int), ())).bind fun y23 =>
 some ((), y23.1, ()))))
def rNorm_c : Ctr := ⟨[.ro (.slice y2)], [.own (.vec y2)], fun v => rNorm v.1⟩
def rNorm_h : zH := fun i => if i = 12 then zL [(6, .vec y2), (36, .vec y2), (37, yi64), (38, yi64)] [zX 2 [(6, .vec y2)]] else if i = 1150016 then zC [zN [(6, .vec y2), (8, .bx y2), (9, yi64), (36, .vec y2), (37, yi64), (38, yi64), (57, .bool)]] else if i = 1020009 then zC [zN [(3, .vec y2)]] else if i = 3 then zL [(3, .vec y2), (10, .slice y2), (11, yi64), (12, yi64)] [zX 0 [(3, .vec y2)]] else none
def rNorm_g : zG := [(121, sortF_c)]
theorem rNorm_eq : EqB rNorm_c rNorm_g rNorm_h 78 Tryz.f101 [2] [] := fun v => by kernel_rfl
def slEqual_s4 (a0 : tC) (a1 : tC) (a12 : Int) (a13 : Int) : Option ((tC × tC × Int × Int × Unit) ⊕ ((Bool × Unit) ⊕ Unit)) :=
 bif (decide (a13 < a12)) then
 ((lk a0 a13).bind fun x5 =>
 ((lk a1 a13).bind fun x6 =>
 bif (!((decide (x5.1 = x6.1) && decide (x5.2 = x6.2)))) then
 some (.inr (.inl (false, ())))
 else
 some (.inl (a0, a1, a12, (IntKind.i64.wrap (a13 + 1)), ()))))
 else
 some (.inr (.inr ()))
def slEqual (p0 : tC) (p1 : tC) : Option (Unit × Bool × Unit) :=
 ((show Option ((Bool × Unit) ⊕ (tC × tC × Unit)) from
 bif ((p0.length : Int) != (p1.length : Int)) then
 some (.inl (false, ()))
 else
 some (.inr (p0, p1, ()))).bind fun y2 =>
 (match y2 with
 | .inl y2 =>
 some ((), y2.1, ())
 | .inr y2 =>
 ((iterN (fun x => slEqual_s4 x.1 x.2.1 x.2.2.1 x.2.2.2.1) fuN (y2.1, y2.2.1, (y2.1.length : Int), (0 : Int), ())).bind fun y7 =>
 (match y7 with
 | .inl y7 =>
 some ((), y7.1, ())
 | .inr y7 =>
 some ((), true, ())))))
def slEqual_c : Ctr := ⟨[.ro (.slice y2), .ro (.slice y2)], [.val .bool], fun v => slEqual v.1 v.2.1⟩
def slEqual_h : zH := fun i => if i = 4 then zL [(0, .slice y2), (1, .slice y2), (12, yi64), (13, yi64)] [zR [(4, .bool)], zX 0 []] else if i = 1010003 then zC [zR [(4, .bool)], zN [(0, .slice y2), (1, .slice y2)]] else none
theorem slEqual_eq : EqB slEqual_c [] slEqual_h 26 Tryz.f99 [4] [] := fun v => by kernel_rfl
def hasF (p0 : (Int × Int)) (p1 : Int) : Option (Unit × Bool × Unit) :=
 bif (decide (p0.1 ≤ p1)) then
 some ((), (decide (p1 ≤ p0.2)), ())
 else
 some ((), false, ())
def hasF_c : Ctr := ⟨[.ro y2, .ro (.rad yi32 0)], [.val .bool], fun v => hasF v.1 v.2.1⟩
theorem hasF_eq : EqB hasF_c [] h0 14 Tryz.f91 [3] [] := fun v => by kernel_rfl
def indexFunc_s2 (a0 : tC) (a1 : (Int × Unit)) (a7 : Int) (a8 : Int) : Option ((tC × (Int × Unit) × Int × Int × Unit) ⊕ ((Int × Unit) ⊕ Unit)) :=
 bif (decide (a8 < a7)) then
 ((lk a0 a8).bind fun x3 =>
 ((hasF x3 a1.1).bind fun r4 =>
 bif r4.2.1 then
 some (.inr (.inl (a8, ())))
 else
 some (.inl (a0, a1, a7, (IntKind.i64.wrap (a8 + 1)), ()))))
 else
 some (.inr (.inr ()))
def indexFunc (p0 : tC) (p1 : (Int × Unit)) : Option (Unit × Int × Unit) :=
 ((iterN (fun x => indexFunc_s2 x.1 x.2.1 x.2.2.1 x.2.2.2.1) fuN (p0, p1, (p0.length : Int), (0 : Int), ())).bind fun y5 =>
 (match y5 with
 | .inl y5 =>
 some ((), y5.1, ())
 | .inr y5 =>
 some ((), (-1 : Int), ())))
def indexFunc_c : Ctr := ⟨[.ro (.slice y2), .ro (.clo 91 (.pair (.rad yi32 0) .unit))], [.val yi64], fun v => indexFunc v.1 v.2.1⟩
def indexFunc_h : zH := fun i => if i = 2 then zL [(0, .slice y2), (1, (.clo 91 (.pair (.rad yi32 0) .unit))), (7, yi64), (8, yi64)] [zR [(4, yi64)], zX 0 []] else none
def indexFunc_g : zG := [(91, hasF_c)]
theorem indexFunc_eq : EqB indexFunc_c indexFunc_g indexFunc_h 19 Tryz.f107 [4] [] := fun v => by kernel_rfl
def containsFunc (p0 : tC) (p1 : (Int × Unit)) : Option (Unit × Bool × Unit) :=
 ((indexFunc p0 p1).bind fun r1 =>
 some ((), (decide (r1.2.1 ≥ 0)), ()))
def containsFunc_c : Ctr := ⟨[.ro (.slice y2), .ro (.clo 91 (.pair (.rad yi32 0) .unit))], [.val .bool], fun v => containsFunc v.1 v.2.1⟩
def containsFunc_g : zG := [(107, indexFunc_c)]
theorem containsFunc_eq : EqB containsFunc_c containsFunc_g h0 9 Tryz.f90 [4] [] := fun v => by kernel_rfl
def rHas (p0 : tC) (p1 : Int) : Option (Unit × Bool × Unit) :=
 bif (decide (p1 ≥ 0)) then
 bif (decide (p1 ≤ 1114111)) then
 ((containsFunc p0 (p1, ())).bind fun r1 =>
 some ((), r1.2.1, ()))
 else
 some ((), false, ())
 else
 some ((), false, ())
def rHas_c : Ctr := ⟨[.ro (.slice y2), .ro yi32], [.val .bool], fun v => rHas v.1 v.2.1⟩
def rHas_g : zG := [(90, containsFunc_c)]
theorem rHas_eq : EqB rHas_c rHas_g h0 16 Tryz.f73 [4] [] := fun v => by kernel_rfl
def refHas_s2 (a0 : tC) (a1 : Int) (a5 : Int) : Option ((tC × Int × Int × Unit) ⊕ ((Bool × Unit) ⊕ Unit)) :=
 ((show Option ((tC × Int × Int × Unit) ⊕ Unit) from
 bif (decide (a5 < (a0.length : Int))) then
 some (.inl (a0, a1, a5, ()))
 else
 some (.inr ())).bind fun y4 =>
 (match y4 with
 | .inl y4 =>
 ((show Option ((Bool × Unit) ⊕ (tC × Int × Int × Unit)) from
 bif (decide (y4.2.1 ≥ 0)) then
 bif (decide (y4.2.1 ≤ 1114111)) then
 ((lk y4.1 y4.2.2.1).bind fun x6 =>
 bif (decide (x6.1 ≤ y4.2.1)) then
 ((lk y4.1 y4.2.2.1).bind fun x7 =>
 bif (decide (y4.2.1 ≤ x7.2)) then
 some (.inl (true, ()))
 else
 some (.inr (y4.1, y4.2.1, y4.2.2.1, ())))
 else
 some (.inr (y4.1, y4.2.1, y4.2.2.1, ())))
 else
 some (.inr (y4.1, y4.2.1, y4.2.2.1, ()))
 else
 some (.inr (y4.1, y4.2.1, y4.2.2.1, ()))).bind fun y8 =>
 (match y8 with
 | .inl y8 =>
 some (.inr (.inl (y8.1, ())))
 | .inr y8 =>
 some (.inl (y8.1, y8.2.1, (IntKind.i64.wrap (y8.2.2.1 + 1)), ()))))
 | .inr y4 =>
 some (.inr (.inr ()))))
def refHas (p0 : tC) (p1 : Int) : Option (Unit × Bool × Unit) :=
 ((iterN (fun x => refHas_s2 x.1 x.2.1 x.2.2.1) fuN (p0, p1, (0 : Int), ())).bind fun y9 =>
 (match y9 with
 | .inl y9 =>
 some ((), y9.1, ())
 | .inr y9 =>
 some ((), false, ())))
def refHas_c : Ctr := ⟨[.ro (.slice y2), .ro yi32], [.val .bool], fun v => refHas v.1 v.2.1⟩
def refHas_h : zH := fun i => if i = 2 then zL [(0, .slice y2), (1, yi32), (5, yi64)] [zR [(4, .bool)], zX 0 []] else if i = 1040003 then zC [zR [(4, .bool)], zN [(0, .slice y2), (1, yi32), (5, yi64)]] else if i = 1020004 then zC [zN [(0, .slice y2), (1, yi32), (5, yi64)], zX 0 []] else none
theorem refHas_eq : EqB refHas_c [] refHas_h 36 Tryz.f80 [4] [] := fun v => by kernel_rfl
def utfValid (p0 : Int) : Option (Unit × Bool × Unit) :=
 bif (decide (p0 ≥ 0)) then
 bif (decide (p0 ≤ 1114111)) then
 bif (decide (p0 < 55296)) then
 some ((), true, ())
 else
 some ((), (decide (p0 > 57343)), ())
 else
 some ((), false, ())
 else
 some ((), false, ())
def utfValid_c : Ctr := ⟨[.ro yi32], [.val .bool], fun v => utfValid v.1⟩
theorem utfValid_eq : EqB utfValid_c [] h0 17 Tryz.f106 [2] [] := fun v => by kernel_rfl
def utfLead (p0 : Int) : Option (Unit × Int × Int × Int × Int × Unit) :=
 ((show Option ((Int × Int × Int × Int × Unit) ⊕ (Int × Int × Int × Unit)) from
 bif (decide (p0 < 128)) then
 some (.inl ((1 : Int), (IntKind.i32.wrap (p0)), (128 : Int), (191 : Int), ()))
 else
 ((show Option (Int × Int × Int × Bool × Unit) from
 bif (decide (p0 < 194)) then
 some (p0, (128 : Int), (191 : Int), true, ())
 else
 some (p0, (128 : Int), (191 : Int), (decide (p0 > 244)), ())).bind fun y3 =>
 bif y3.2.2.2.1 then
 some (.inl ((0 : Int), (0 : Int), y3.2.1, y3.2.2.1, ()))
 else
 bif (decide (y3.1 < 224)) then
 let v4 := (IntKind.u8.wrap (((BitVec.ofInt IntKind.u8.bits y3.1 &&& BitVec.ofInt IntKind.u8.bits (31 : Int)).toNat : Int)))
 some (.inl ((2 : Int), (IntKind.i32.wrap (v4)), y3.2.1, y3.2.2.1, ()))
 else
 bif (decide (y3.1 < 240)) then
 ((show Option (Int × Int × Int × Unit) from
 bif (y3.1 == 224) then
 some (y3.1, (160 : Int), y3.2.2.1, ())
 else
 bif (y3.1 == 237) then
 some (y3.1, y3.2.1, (159 : Int), ())
 else
 some (y3.1, y3.2.1, y3.2.2.1, ())).bind fun y6 =>
 let v7 := (IntKind.u8.wrap (((BitVec.ofInt IntKind.u8.bits y6.1 &&& BitVec.ofInt IntKind.u8.bits (15 : Int)).toNat : Int)))
 some (.inl ((3 : Int), (IntKind.i32.wrap (v7)), y6.2.1, y6.2.2.1, ())))
 else
 some (.inr (y3.1, y3.2.1, y3.2.2.1, ())))).bind fun y8 =>
 (match y8 with
 | .inl y8 =>
 some ((), y8.1, y8.2.1, y8.2.2.1, y8.2.2.2.1, ())
 | .inr y8 =>
 ((show Option (Int × Int × Int × Unit) from
 bif (y8.1 == 240) then
 some (y8.1, (144 : Int), y8.2.2.1, ())
 else
 bif (y8.1 == 244) then
 some (y8.1, y8.2.1, (143 : Int), ())
 else
 some (y8.1, y8.2.1, y8.2.2.1, ())).bind fun y10 =>
 let v11 := (IntKind.u8.wrap (((BitVec.ofInt IntKind.u8.bits y10.1 &&& BitVec.ofInt IntKind.u8.bits (7 : Int)).toNat : Int)))
 some ((), (4 : Int), (IntKind.i32.wrap (v11)), y10.2.1, y10.2.2.1, ()))))
def utfLead_c : Ctr := ⟨[.ro yu8], [.val yi64, .val yi32, .val yu8, .val yu8], fun v => utfLead v.1⟩
def utfLead_h : zH := fun i => if i = 1140018 then zC [zN [(0, yu8), (4, yu8), (5, yu8)]] else if i = 1020014 then zC [zR [(2, yi64), (3, yi32), (4, yu8), (5, yu8)], zN [(0, yu8), (4, yu8), (5, yu8)]] else if i = 1090013 then zC [zN [(0, yu8), (4, yu8), (5, yu8)]] else if i = 1040005 then zC [zN [(0, yu8), (4, yu8), (5, yu8), (13, .bool)]] else none
theorem utfLead_eq : EqB utfLead_c [] utfLead_h 51 Tryz.f142 [2, 3, 4, 5] [] := fun v => by kernel_rfl
def utfOne_s7 (a0 : List Int) (a2 : Int) (a5 : Int) (a6 : Int) (a7 : Int) (a8 : Int) : Option ((List Int × Int × Int × Int × Int × Int × Unit) ⊕ ((Int × Int × Bool × Unit) ⊕ (Int × Int × Unit))) :=
 ((show Option ((List Int × Int × Int × Int × Int × Int × Unit) ⊕ (Int × Int × Unit)) from
 bif (decide (a8 < a5)) then
 some (.inl (a0, a2, a5, a6, a7, a8, ()))
 else
 some (.inr (a2, a5, ()))).bind fun y9 =>
 (match y9 with
 | .inl y9 =>
 ((show Option ((Int × Int × Bool × Unit) ⊕ (List Int × Int × Int × Int × Int × Int × Unit)) from
 ((show Option ((Int × Int × Bool × Unit) ⊕ (List Int × Int × Int × Int × Int × Int × Unit)) from
 bif (y9.2.2.2.2.2.1 == (y9.1.length : Int)) then
 some (.inl ((65533 : Int), y9.2.2.2.2.2.1, true, ()))
 else
 some (.inr (y9.1, y9.2.1, y9.2.2.1, y9.2.2.2.1, y9.2.2.2.2.1, y9.2.2.2.2.2.1, ()))).bind fun y12 =>
 (match y12 with
 | .inl y12 =>
 some (.inl (y12.1, y12.2.1, y12.2.2.1, ()))
 | .inr y12 =>
 ((show Option ((Int × Int × Bool × Unit) ⊕ (List Int × Int × Int × Int × Unit)) from
 ((show Option (List Int × Int × Int × Int × Bool × Unit) from
 ((lk y12.1 y12.2.2.2.2.2.1).bind fun x15 =>
 bif (decide (x15 < y12.2.2.2.1)) then
 some (y12.1, y12.2.1, y12.2.2.1, y12.2.2.2.2.2.1, true, ())
 else
 ((lk y12.1 y12.2.2.2.2.2.1).bind fun x16 =>
 some (y12.1, y12.2.1, y12.2.2.1, y12.2.2.2.2.2.1, (decide (x16 > y12.2.2.2.2.1)), ())))).bind fun y17 =>
 bif y17.2.2.2.2.1 then
 some (.inl ((65533 : Int), y17.2.2.2.1, false, ()))
 else
 some (.inr (y17.1, y17.2.1, y17.2.2.1, y17.2.2.2.1, ())))).bind fun y18 =>
 (match y18 with
 | .inl y18 =>
 some (.inl (y18.1, y18.2.1, y18.2.2.1, ()))
 | .inr y18 =>
 bif (decide (0 ≤ (6 : Int))) then
 let v19 := (IntKind.i32.wrap (y18.2.1 * 2 ^ (min (6 : Int).toNat IntKind.i32.bits)))
 ((lk y18.1 y18.2.2.2.1).bind fun x20 =>
 let v21 := (IntKind.u8.wrap (((BitVec.ofInt IntKind.u8.bits x20 &&& BitVec.ofInt IntKind.u8.bits (63 : Int)).toNat : Int)))
 let v22 := (IntKind.i32.wrap (((BitVec.ofInt IntKind.i32.bits v19 ||| BitVec.ofInt IntKind.i32.bits (IntKind.i32.wrap (v21))).toNat : Int)))
 some (.inr (y18.1, v22, y18.2.2.1, (128 : Int), (191 : Int), y18.2.2.2.1, ())))
 else none))))).bind fun y23 =>
 (match y23 with
 | .inl y23 =>
 some (.inr (.inl (y23.1, y23.2.1, y23.2.2.1, ())))
 | .inr y23 =>
 some (.inl (y23.1, y23.2.1, y23.2.2.1, y23.2.2.2.1, y23.2.2.2.2.1, (IntKind.i64.wrap (y23.2.2.2.2.2.1 + 1)), ()))))
 | .inr y9 =>
 some (.inr (.inr (y9.1, y9.2.1, ())))))
def utfOne (p0 : List Int) : Option (Unit × Int × Int × Bool × Unit) :=
 ((lk p0 (0 : Int)).bind fun x1 =>
 ((utfLead x1).bind fun r2 =>
 ((show Option ((Int × Int × Bool × Unit) ⊕ (List Int × Int × Int × Int × Int × Unit)) from
 bif (r2.2.1 == 0) then
 some (.inl ((65533 : Int), (1 : Int), false, ()))
 else
 some (.inr (p0, r2.2.2.1, r2.2.1, r2.2.2.2.1, r2.2.2.2.2.1, ()))).bind fun y4 =>
 (match y4 with
 | .inl y4 =>
 some ((), y4.1, y4.2.1, y4.2.2.1, ())
 | .inr y4 =>
 ((show Option ((Int × Int × Bool × Unit) ⊕ (Int × Int × Unit)) from
 ((iterN (fun x => utfOne_s7 x.1 x.2.1 x.2.2.1 x.2.2.2.1 x.2.2.2.2.1 x.2.2.2.2.2.1) fuN (y4.1, y4.2.1, y4.2.2.1, y4.2.2.2.1, y4.2.2.2.2.1, (1 : Int), ())).bind fun y24 =>
 (match y24 with
 | .inl y24 =>
 some (.inl (y24.1, y24.2.1, y24.2.2.1, ()))
 | .inr y24 =>
 some (.inr (y24.1, y24.2.1, ()))))).bind fun y25 =>
 (match y25 with
 | .inl y25 =>
 some ((), y25.1, y25.2.1, y25.2.2.1, ())
 | .inr y25 =>
 some ((), y25.1, y25.2.1, false, ())))))))
def utfOne_c : Ctr := ⟨[.ro (.slice yu8)], [.val yi32, .val yi64, .val .bool], fun v => utfOne v.1⟩
def utfOne_h : zH := fun i => if i = 1040013 then zC [zR [(2, yi32), (3, yi64), (4, .bool)], zN [(2, yi32), (5, yi64)]] else if i = 5 then zL [(0, .slice yu8), (2, yi32), (5, yi64), (6, yu8), (7, yu8), (8, yi64)] [zR [(2, yi32), (3, yi64), (4, .bool)], zX 0 [(2, yi32), (5, yi64)]] else if i = 1070006 then zC [zR [(2, yi32), (3, yi64), (4, .bool)], zN [(0, .slice yu8), (2, yi32), (5, yi64), (6, yu8), (7, yu8), (8, yi64)]] else if i = 1090011 then zC [zR [(2, yi32), (3, yi64), (4, .bool)], zN [(0, .slice yu8), (2, yi32), (5, yi64), (8, yi64)]] else if i = 1090010 then zC [zN [(0, .slice yu8), (2, yi32), (5, yi64), (8, yi64), (43, .bool)]] else if i = 1070009 then zC [zR [(2, yi32), (3, yi64), (4, .bool)], zN [(0, .slice yu8), (2, yi32), (5, yi64), (6, yu8), (7, yu8), (8, yi64)]] else if i = 1050007 then zC [zN [(0, .slice yu8), (2, yi32), (5, yi64), (6, yu8), (7, yu8), (8, yi64)], zX 0 [(2, yi32), (5, yi64)]] else if i = 1020004 then zC [zR [(2, yi32), (3, yi64), (4, .bool)], zN [(0, .slice yu8), (2, yi32), (5, yi64), (6, yu8), (7, yu8)]] else none
def utfOne_g : zG := [(142, utfLead_c)]
theorem utfOne_eq : EqB utfOne_c utfOne_g utfOne_h 56 Tryz.f126 [2, 3, 4] [] := fun v => by kernel_rfl
def utfNew : Option (Unit × (List Int × Int × Bool) × Unit) :=
 some ((), (([] : List Int), (0 : Int), false), ())
def utfNew_c : Ctr := ⟨[], [.own (.bx (.st (.pair (.vec yu8) (.pair yi64 .bool))))], fun v => utfNew⟩
theorem utfNew_eq : EqB utfNew_c [] h0 3 Tryz.f103 [0] [] := fun v => by kernel_rfl
def utfWrite_s4 (a0 : (Unit × Int × Bool)) (a5 : List Int) (a6 : List (Int × Int × Int)) : Option (((Unit × Int × Bool) × List Int × List (Int × Int × Int) × Unit) ⊕ ((Unit × Int × Bool) × List Int × List (Int × Int × Int) × Unit)) :=
 ((show Option (((Unit × Int × Bool) × List Int × List (Int × Int × Int) × Unit) ⊕ ((Unit × Int × Bool) × List Int × List (Int × Int × Int) × Unit)) from
 bif (decide ((a5.length : Int) > 0)) then
 some (.inl (((), a0.2), a5, a6, ()))
 else
 some (.inr (((), a0.2), a5, a6, ()))).bind fun y6 =>
 (match y6 with
 | .inl y6 =>
 ((utfOne y6.2.1).bind fun r7 =>
 ((show Option (((Unit × Int × Bool) × List Int × List (Int × Int × Int) × Unit) ⊕ ((Unit × Int × Bool) × List Int × List (Int × Int × Int) × Int × Int × Unit)) from
 bif r7.2.2.2.1 then
 some (.inl (((), y6.1.2), y6.2.1, y6.2.2.1, ()))
 else
 some (.inr (((), y6.1.2), y6.2.1, y6.2.2.1, r7.2.1, r7.2.2.1, ()))).bind fun y9 =>
 (match y9 with
 | .inl y9 =>
 some (.inr (((), y9.1.2), y9.2.1, y9.2.2.1, ()))
 | .inr y9 =>
 bif (roomOk (y9.2.2.1.length + [(y9.2.2.2.1, y9.1.2.1, y9.2.2.2.2.1)].length) 24) then
 bif (inB y9.2.2.2.2.1 (y9.2.1.length : Int) y9.2.1.length) then
 some (.inl (((), (IntKind.i64.wrap (y9.1.2.1 + y9.2.2.2.2.1)), y9.1.2.2), (((y9.2.1).drop y9.2.2.2.2.1.toNat).take ((y9.2.1.length : Int) - y9.2.2.2.2.1).toNat), (y9.2.2.1 ++ [(y9.2.2.2.1, y9.1.2.1, y9.2.2.2.2.1)]), ()))
 else none
 else none)))
 | .inr y6 =>
 some (.inr (((), y6.1.2), y6.2.1, y6.2.2.1, ()))))
def utfWrite (p0 : (List Int × Int × Bool)) (p1 : List Int) : Option ((List Int × Int × Bool) × List (Int × Int × Int) × Unit) :=
 ((show Option (((List Int × Int × Bool) × Unit × Unit) ⊕ ((List Int × Int × Bool) × List Int × Unit)) from
 bif p0.2.2 then
 some (.inl (p0, (), ()))
 else
 some (.inr (p0, p1, ()))).bind fun y1 =>
 (match y1 with
 | .inl y1 =>
 some (y1.1, ([] : List (Int × Int × Int)), ())
 | .inr y1 =>
 bif (roomOk (y1.1.1.length + y1.2.1.length) 1) then
 ((show Option ((Unit × Int × Bool) × List Int × List (Int × Int × Int) × Unit) from
 ((iterN (fun x => utfWrite_s4 x.1 x.2.1 x.2.2.1) fuN (((), y1.1.2), (y1.1.1 ++ y1.2.1), ([] : List (Int × Int × Int)), ())).bind fun y10 =>
 some (((), y10.1.2), y10.2.1, y10.2.2.1, ()))).bind fun y11 =>
 bif (roomOk y11.2.1.length 1) then
 some ((y11.2.1, y11.1.2), y11.2.2.1, ())
 else none)
 else none))
def utfWrite_c : Ctr := ⟨[.mu (.bx (.st (.pair (.vec yu8) (.pair yi64 .bool)))), .ro (.slice yu8)], [.own (.vec y8)], fun v => utfWrite v.1 v.2.1⟩
def utfWrite_h : zH := fun i => if i = 1050011 then zC [zN [(0, .bx (.st (.pair .lost (.pair yi64 .bool)))), (5, .vec yu8), (6, .vec y8)]] else if i = 5 then zL [(0, .bx (.st (.pair .lost (.pair yi64 .bool)))), (5, .vec yu8), (6, .vec y8)] [zX 0 [(0, .bx (.st (.pair .lost (.pair yi64 .bool)))), (5, .vec yu8), (6, .vec y8)]] else if i = 1070008 then zC [zX 0 [(0, .bx (.st (.pair .lost (.pair yi64 .bool)))), (5, .vec yu8), (6, .vec y8)], zN [(0, .bx (.st (.pair .lost (.pair yi64 .bool)))), (5, .vec yu8), (6, .vec y8), (7, yi32), (8, yi64)]] else if i = 1050006 then zC [zN [(0, .bx (.st (.pair .lost (.pair yi64 .bool)))), (5, .vec yu8), (6, .vec y8)], zX 0 [(0, .bx (.st (.pair .lost (.pair yi64 .bool)))), (5, .vec yu8), (6, .vec y8)]] else if i = 1010003 then zC [zR [(0, .bx (.st (.pair (.vec yu8) (.pair yi64 .bool)))), (4, .nils)], zN [(0, .bx (.st (.pair (.vec yu8) (.pair yi64 .bool)))), (1, .slice yu8)]] else none
def utfWrite_g : zG := [(126, utfOne_c)]
theorem utfWrite_eq : EqB utfWrite_c utfWrite_g utfWrite_h 61 Tryz.f104 [4] [] := fun v => by kernel_rfl
def utfClose (p0 : (List Int × Int × Bool)) : Option ((List Int × Int × Bool) × List (Int × Int × Int) × Unit) :=
 ((show Option (((List Int × Int × Bool) × Unit × Unit) ⊕ ((List Int × Int × Bool) × Unit)) from
 bif p0.2.2 then
 some (.inl (p0, (), ()))
 else
 some (.inr (p0, ()))).bind fun y2 =>
 (match y2 with
 | .inl y2 =>
 some (y2.1, ([] : List (Int × Int × Int)), ())
 | .inr y2 =>
 ((show Option (((Unit × Int × Bool) × Unit × Unit) ⊕ ((Unit × Int × Bool) × Int × Unit)) from
 bif ((y2.1.1.length : Int) == 0) then
 some (.inl (((), y2.1.2.1, true), (), ()))
 else
 some (.inr (((), y2.1.2.1, true), (y2.1.1.length : Int), ()))).bind fun y4 =>
 (match y4 with
 | .inl y4 =>
 some ((([] : List Int), y4.1.2), ([] : List (Int × Int × Int)), ())
 | .inr y4 =>
 some ((([] : List Int), y4.1.2), [((65533 : Int), y4.1.2.1, y4.2.1)], ())))))
def utfClose_c : Ctr := ⟨[.mu (.bx (.st (.pair (.vec yu8) (.pair yi64 .bool))))], [.val (.slice y8)], fun v => utfClose v.1⟩
def utfClose_h : zH := fun i => if i = 1060008 then zC [zR [(0, .bx (.st (.pair .nils (.pair yi64 .bool)))), (2, .nils)], zN [(0, .bx (.st (.pair .nils (.pair yi64 .bool)))), (3, yi64)]] else if i = 1010003 then zC [zR [(0, .bx (.st (.pair (.vec yu8) (.pair yi64 .bool)))), (2, .nils)], zN [(0, .bx (.st (.pair (.vec yu8) (.pair yi64 .bool))))]] else none
theorem utfClose_eq : EqB utfClose_c [] utfClose_h 32 Tryz.f105 [2] [] := fun v => by kernel_rfl
def utfDecode (p0 : List Int) : Option (Unit × List (Int × Int × Int) × Unit) :=
 ((utfNew).bind fun r1 =>
 ((utfWrite r1.2.1 p0).bind fun r2 =>
 ((utfClose r2.1).bind fun r3 =>
 bif (roomOk (r2.2.1.length + r3.2.1.length) 24) then
 some ((), (r2.2.1 ++ r3.2.1), ())
 else none)))
def utfDecode_c : Ctr := ⟨[.ro (.slice yu8)], [.val (.slice y8)], fun v => utfDecode v.1⟩
def utfDecode_g : zG := [(103, utfNew_c), (104, utfWrite_c), (105, utfClose_c)]
theorem utfDecode_eq : EqB utfDecode_c utfDecode_g h0 11 Tryz.f88 [2] [] := fun v => by kernel_rfl
def utfEncode_s2 (a3 : List Int) (a6 : List Int) (a7 : Int) (a8 : Int) : Option ((List Int × List Int × Int × Int × Unit) ⊕ (List Int × Unit)) :=
 bif (decide (a8 < a7)) then
 ((lk a6 a8).bind fun x3 =>
 ((show Option (List Int × Int × List Int × Int × Int × Unit) from
 ((utfValid x3).bind fun r5 =>
 bif (!r5.2.1) then
 some (a3, (65533 : Int), a6, a7, a8, ())
 else
 some (a3, x3, a6, a7, a8, ()))).bind fun y6 =>
 bif (decide (y6.2.1 < 128)) then
 bif (roomOk (y6.1.length + [(IntKind.u8.wrap (y6.2.1))].length) 1) then
 some (.inl ((y6.1 ++ [(IntKind.u8.wrap (y6.2.1))]), y6.2.2.1, y6.2.2.2.1, (IntKind.i64.wrap (y6.2.2.2.2.1 + 1)), ()))
 else none
 else
 bif (decide (y6.2.1 < 2048)) then
 bif (decide (0 ≤ (6 : Int))) then
 let v7 := (Int.fdiv y6.2.1 (2 ^ (min (6 : Int).toNat IntKind.i32.bits)))
 let v8 := (IntKind.u8.wrap (((BitVec.ofInt IntKind.u8.bits (192 : Int) ||| BitVec.ofInt IntKind.u8.bits (IntKind.u8.wrap (v7))).toNat : Int)))
 let v9 := (IntKind.i32.wrap (((BitVec.ofInt IntKind.i32.bits y6.2.1 &&& BitVec.ofInt IntKind.i32.bits (63 : Int)).toNat : Int)))
 let v10 := (IntKind.u8.wrap (((BitVec.ofInt IntKind.u8.bits (128 : Int) ||| BitVec.ofInt IntKind.u8.bits (IntKind.u8.wrap (v9))).toNat : Int)))
 bif (roomOk (y6.1.length + [v8, v10].length) 1) then
 some (.inl ((y6.1 ++ [v8, v10]), y6.2.2.1, y6.2.2.2.1, (IntKind.i64.wrap (y6.2.2.2.2.1 + 1)), ()))
 else none
 else none
 else
 bif (decide (y6.2.1 < 65536)) then
 bif (decide (0 ≤ (12 : Int))) then
 let v11 := (Int.fdiv y6.2.1 (2 ^ (min (12 : Int).toNat IntKind.i32.bits)))
 let v12 := (IntKind.u8.wrap (((BitVec.ofInt IntKind.u8.bits (224 : Int) ||| BitVec.ofInt IntKind.u8.bits (IntKind.u8.wrap (v11))).toNat : Int)))
 bif (decide (0 ≤ (6 : Int))) then
 let v13 := (Int.fdiv y6.2.1 (2 ^ (min (6 : Int).toNat IntKind.i32.bits)))
 let v14 := (IntKind.i32.wrap (((BitVec.ofInt IntKind.i32.bits v13 &&& BitVec.ofInt IntKind.i32.bits (63 : Int)).toNat : Int)))
 let v15 := (IntKind.u8.wrap (((BitVec.ofInt IntKind.u8.bits (128 : Int) ||| BitVec.ofInt IntKind.u8.bits (IntKind.u8.wrap (v14))).toNat : Int)))
 let v16 := (IntKind.i32.wrap (((BitVec.ofInt IntKind.i32.bits y6.2.1 &&& BitVec.ofInt IntKind.i32.bits (63 : Int)).toNat : Int)))
 let v17 := (IntKind.u8.wrap (((BitVec.ofInt IntKind.u8.bits (128 : Int) ||| BitVec.ofInt IntKind.u8.bits (IntKind.u8.wrap (v16))).toNat : Int)))
 bif (roomOk (y6.1.length + [v12, v15, v17].length) 1) then
 some (.inl ((y6.1 ++ [v12, v15, v17]), y6.2.2.1, y6.2.2.2.1, (IntKind.i64.wrap (y6.2.2.2.2.1 + 1)), ()))
 else none
 else none
 else none
 else
 bif (decide (0 ≤ (18 : Int))) then
 let v18 := (Int.fdiv y6.2.1 (2 ^ (min (18 : Int).toNat IntKind.i32.bits)))
 let v19 := (IntKind.u8.wrap (((BitVec.ofInt IntKind.u8.bits (240 : Int) ||| BitVec.ofInt IntKind.u8.bits (IntKind.u8.wrap (v18))).toNat : Int)))
 bif (decide (0 ≤ (12 : Int))) then
 let v20 := (Int.fdiv y6.2.1 (2 ^ (min (12 : Int).toNat IntKind.i32.bits)))
 let v21 := (IntKind.i32.wrap (((BitVec.ofInt IntKind.i32.bits v20 &&& BitVec.ofInt IntKind.i32.bits (63 : Int)).toNat : Int)))
 let v22 := (IntKind.u8.wrap (((BitVec.ofInt IntKind.u8.bits (128 : Int) ||| BitVec.ofInt IntKind.u8.bits (IntKind.u8.wrap (v21))).toNat : Int)))
 bif (decide (0 ≤ (6 : Int))) then
 let v23 := (Int.fdiv y6.2.1 (2 ^ (min (6 : Int).toNat IntKind.i32.bits)))
 let v24 := (IntKind.i32.wrap (((BitVec.ofInt IntKind.i32.bits v23 &&& BitVec.ofInt IntKind.i32.bits (63 : Int)).toNat : Int)))
 let v25 := (IntKind.u8.wrap (((BitVec.ofInt IntKind.u8.bits (128 : Int) ||| BitVec.ofInt IntKind.u8.bits (IntKind.u8.wrap (v24))).toNat : Int)))
 let v26 := (IntKind.i32.wrap (((BitVec.ofInt IntKind.i32.bits y6.2.1 &&& BitVec.ofInt IntKind.i32.bits (63 : Int)).toNat : Int)))
 let v27 := (IntKind.u8.wrap (((BitVec.ofInt IntKind.u8.bits (128 : Int) ||| BitVec.ofInt IntKind.u8.bits (IntKind.u8.wrap (v26))).toNat : Int)))
 bif (roomOk (y6.1.length + [v19, v22, v25, v27].length) 1) then
 some (.inl ((y6.1 ++ [v19, v22, v25, v27]), y6.2.2.1, y6.2.2.2.1, (IntKind.i64.wrap (y6.2.2.2.2.1 + 1)), ()))
 else none
 else none
 else none
 else none))
 else
 some (.inr (a3, ()))
def utfEncode (p0 : List Int) : Option (Unit × List Int × Unit) :=
 ((iterN (fun x => utfEncode_s2 x.1 x.2.1 x.2.2.1 x.2.2.2.1) fuN (([] : List Int), p0, (p0.length : Int), (0 : Int), ())).bind fun y28 =>
 some ((), y28.1, ()))
def utfEncode_c : Ctr := ⟨[.ro (.slice yi32)], [.own (.vec yu8)], fun v => utfEncode v.1⟩
def utfEncode_h : zH := fun i => if i = 3 then zL [(3, .vec yu8), (6, .slice yi32), (7, yi64), (8, yi64)] [zX 0 [(3, .vec yu8)]] else if i = 1050008 then zC [zN [(3, .vec yu8), (5, yi32), (6, .slice yi32), (7, yi64), (8, yi64)]] else none
def utfEncode_g : zG := [(106, utfValid_c)]
theorem utfEncode_eq : EqB utfEncode_c utfEncode_g utfEncode_h 79 Tryz.f89 [2] [] := fun v => by kernel_rfl
def sRead_s6 (a0 : List UInt8) (a5 : List (Int × Int × Int)) (a6 : List Int) (a15 : List (Int × Int × Int)) (a16 : Int) (a17 : Int) : Option ((List UInt8 × List (Int × Int × Int) × List Int × List (Int × Int × Int) × Int × Int × Unit) ⊕ (List UInt8 × List (Int × Int × Int) × List Int × Unit)) :=
 bif (decide (a17 < a16)) then
 ((lk a15 a17).bind fun x7 =>
 bif (roomOk (a6.length + [x7.1].length) 4) then
 some (.inl (a0, a5, (a6 ++ [x7.1]), a15, a16, (IntKind.i64.wrap (a17 + 1)), ()))
 else none)
 else
 some (.inr (a0, a5, a6, ()))
def sRead (p0 : List UInt8) : Option (Unit × Int × Int × Bool × Unit) :=
 ((utfDecode (u8s p0)).bind fun r1 =>
 ((show Option ((Int × Int × Bool × Unit) ⊕ (List UInt8 × List (Int × Int × Int) × Unit)) from
 bif ((r1.2.1.length : Int) == 0) then
 some (.inl ((0 : Int), (0 : Int), true, ()))
 else
 some (.inr (p0, r1.2.1, ()))).bind fun y3 =>
 (match y3 with
 | .inl y3 =>
 some ((), y3.1, y3.2.1, y3.2.2.1, ())
 | .inr y3 =>
 ((show Option (List UInt8 × List (Int × Int × Int) × List Int × Unit) from
 ((iterN (fun x => sRead_s6 x.1 x.2.1 x.2.2.1 x.2.2.2.1 x.2.2.2.2.1 x.2.2.2.2.2.1) fuN (y3.1, y3.2.1, ([] : List Int), y3.2.1, (y3.2.1.length : Int), (0 : Int), ())).bind fun y8 =>
 some (y8.1, y8.2.1, y8.2.2.1, ()))).bind fun y9 =>
 ((lk y9.2.1 (0 : Int)).bind fun x10 =>
 ((utfEncode y9.2.2.1).bind fun r11 =>
 some ((), x10.1, (y9.2.1.length : Int), ((s8u r11.2.1) == y9.1), ())))))))
def sRead_c : Ctr := ⟨[.ro .str], [.val yi32, .val yi64, .val .bool], fun v => sRead v.1⟩
def sRead_h : zH := fun i => if i = 1050010 then zC [zN [(0, .str), (5, .slice y8), (6, .vec yi32)]] else if i = 6 then zL [(0, .str), (5, .slice y8), (6, .vec yi32), (15, .slice y8), (16, yi64), (17, yi64)] [zX 0 [(0, .str), (5, .slice y8), (6, .vec yi32)]] else if i = 1020004 then zC [zR [(2, yi32), (3, yi64), (4, .bool)], zN [(0, .str), (5, .slice y8)]] else none
def sRead_g : zG := [(88, utfDecode_c), (89, utfEncode_c)]
theorem sRead_eq : EqB sRead_c sRead_g sRead_h 38 Tryz.f72 [2, 3, 4] [] := fun v => by kernel_rfl
def sOdd_s3 (a3 : tW) (a9 : tW) (a10 : Int) (a11 : Int) : Option ((tW × tW × Int × Int × Unit) ⊕ (tW × Unit)) :=
 bif (decide (a11 < a10)) then
 ((lk a9 a11).bind fun x4 =>
 ((sRead x4).bind fun r5 =>
 ((show Option (tW × List UInt8 × tW × Int × Int × Bool × Unit) from
 bif r5.2.2.2.1 then
 some (a3, x4, a9, a10, a11, (decide (r5.2.2.1 > 1)), ())
 else
 some (a3, x4, a9, a10, a11, false, ())).bind fun y7 =>
 bif y7.2.2.2.2.2.1 then
 bif (roomOk (y7.1.length + [y7.2.1].length) 16) then
 some (.inl ((y7.1 ++ [y7.2.1]), y7.2.2.1, y7.2.2.2.1, (IntKind.i64.wrap (y7.2.2.2.2.1 + 1)), ()))
 else none
 else
 some (.inl (y7.1, y7.2.2.1, y7.2.2.2.1, (IntKind.i64.wrap (y7.2.2.2.2.1 + 1)), ())))))
 else
 some (.inr (a3, ()))
def sOdd (p0 : tW) : Option (Unit × tW × Unit) :=
 ((show Option (tW × Unit) from
 ((iterN (fun x => sOdd_s3 x.1 x.2.1 x.2.2.1 x.2.2.2.1) fuN (([] : tW), p0, (p0.length : Int), (0 : Int), ())).bind fun y8 =>
 some (y8.1, ()))).bind fun y9 =>
 ((sortS y9.1).bind fun r10 =>
 ((compactS r10.1).bind fun r11 =>
 some ((), r11.2.1, ()))))
def sOdd_c : Ctr := ⟨[.ro s1], [.own (.vec .str)], fun v => sOdd v.1⟩
def sOdd_h : zH := fun i => if i = 1020009 then zC [zN [(3, .vec .str)]] else if i = 3 then zL [(3, .vec .str), (9, s1), (10, yi64), (11, yi64)] [zX 0 [(3, .vec .str)]] else if i = 1060007 then zC [zN [(3, .vec .str), (5, .str), (9, s1), (10, yi64), (11, yi64), (25, .bool)]] else none
def sOdd_g : zG := [(124, sortS_c), (124, sortS_c), (125, compactS_c), (72, sRead_c)]
theorem sOdd_eq : EqB sOdd_c sOdd_g sOdd_h 35 Tryz.f102 [2] [] := fun v => by kernel_rfl
def slEqualS_s4 (a0 : tW) (a1 : tW) (a12 : Int) (a13 : Int) : Option ((tW × tW × Int × Int × Unit) ⊕ ((Bool × Unit) ⊕ Unit)) :=
 bif (decide (a13 < a12)) then
 ((lk a0 a13).bind fun x5 =>
 ((lk a1 a13).bind fun x6 =>
 bif (!(x5 == x6)) then
 some (.inr (.inl (false, ())))
 else
 some (.inl (a0, a1, a12, (IntKind.i64.wrap (a13 + 1)), ()))))
 else
 some (.inr (.inr ()))
def slEqualS (p0 : tW) (p1 : tW) : Option (Unit × Bool × Unit) :=
 ((show Option ((Bool × Unit) ⊕ (tW × tW × Unit)) from
 bif ((p0.length : Int) != (p1.length : Int)) then
 some (.inl (false, ()))
 else
 some (.inr (p0, p1, ()))).bind fun y2 =>
 (match y2 with
 | .inl y2 =>
 some ((), y2.1, ())
 | .inr y2 =>
 ((iterN (fun x => slEqualS_s4 x.1 x.2.1 x.2.2.1 x.2.2.2.1) fuN (y2.1, y2.2.1, (y2.1.length : Int), (0 : Int), ())).bind fun y7 =>
 (match y7 with
 | .inl y7 =>
 some ((), y7.1, ())
 | .inr y7 =>
 some ((), true, ())))))
def slEqualS_c : Ctr := ⟨[.ro s1, .ro s1], [.val .bool], fun v => slEqualS v.1 v.2.1⟩
def slEqualS_h : zH := fun i => if i = 4 then zL [(0, s1), (1, s1), (12, yi64), (13, yi64)] [zR [(4, .bool)], zX 0 []] else if i = 1010003 then zC [zR [(4, .bool)], zN [(0, s1), (1, s1)]] else none
theorem slEqualS_eq : EqB slEqualS_c [] slEqualS_h 26 Tryz.f100 [4] [] := fun v => by kernel_rfl
def sNorm (p0 : tS) : Option (Unit × tS × Unit) :=
 ((rNorm p0.1).bind fun r1 =>
 ((rNorm p0.2.1).bind fun r2 =>
 ((sOdd p0.2.2).bind fun r3 =>
 some ((), (r1.2.1, r2.2.1, r3.2.1), ()))))
def sNorm_c : Ctr := ⟨[.ro y5], [.own (.st (.pair (.vec y2) (.pair (.vec y2) (.vec .str))))], fun v => sNorm v.1⟩
def sNorm_g : zG := [(101, rNorm_c), (102, sOdd_c)]
theorem sNorm_eq : EqB sNorm_c sNorm_g h0 13 Tryz.f86 [13] [(2, 70)] := fun v => by kernel_rfl
def sSame (p0 : tS) (p1 : tS) : Option (Unit × Bool × Unit) :=
 ((slEqual p0.1 p1.1).bind fun r1 =>
 bif r1.2.1 then
 ((slEqual p0.2.1 p1.2.1).bind fun r2 =>
 bif r2.2.1 then
 ((slEqualS p0.2.2 p1.2.2).bind fun r3 =>
 some ((), r3.2.1, ()))
 else
 some ((), false, ()))
 else
 some ((), false, ()))
def sSame_c : Ctr := ⟨[.ro y5, .ro y5], [.val .bool], fun v => sSame v.1 v.2.1⟩
def sSame_g : zG := [(99, slEqual_c), (100, slEqualS_c)]
theorem sSame_eq : EqB sSame_c sSame_g h0 24 Tryz.f85 [4] [] := fun v => by kernel_rfl
def sMay (p0 : tS) : Option (Unit × Bool × Unit) :=
 ((sNorm p0).bind fun r1 =>
 ((sSame r1.2.1 p0).bind fun r2 =>
 some ((), r2.2.1, ())))
def sMay_c : Ctr := ⟨[.ro y5], [.val .bool], fun v => sMay v.1⟩
def sMay_g : zG := [(86, sNorm_c), (85, sSame_c)]
theorem sMay_eq : EqB sMay_c sMay_g h0 7 Tryz.f69 [2] [] := fun v => by kernel_rfl
def indexS_s2 (a0 : tW) (a1 : List UInt8) (a7 : Int) (a8 : Int) : Option ((tW × List UInt8 × Int × Int × Unit) ⊕ ((Int × Unit) ⊕ Unit)) :=
 bif (decide (a8 < a7)) then
 ((lk a0 a8).bind fun x3 =>
 bif (a1 == x3) then
 some (.inr (.inl (a8, ())))
 else
 some (.inl (a0, a1, a7, (IntKind.i64.wrap (a8 + 1)), ())))
 else
 some (.inr (.inr ()))
def indexS (p0 : tW) (p1 : List UInt8) : Option (Unit × Int × Unit) :=
 ((iterN (fun x => indexS_s2 x.1 x.2.1 x.2.2.1 x.2.2.2.1) fuN (p0, p1, (p0.length : Int), (0 : Int), ())).bind fun y4 =>
 (match y4 with
 | .inl y4 =>
 some ((), y4.1, ())
 | .inr y4 =>
 some ((), (-1 : Int), ())))
def indexS_c : Ctr := ⟨[.ro s1, .ro .str], [.val yi64], fun v => indexS v.1 v.2.1⟩
def indexS_h : zH := fun i => if i = 2 then zL [(0, s1), (1, .str), (7, yi64), (8, yi64)] [zR [(4, yi64)], zX 0 []] else none
theorem indexS_eq : EqB indexS_c [] indexS_h 19 Tryz.f92 [4] [] := fun v => by kernel_rfl
def containsS (p0 : tW) (p1 : List UInt8) : Option (Unit × Bool × Unit) :=
 ((indexS p0 p1).bind fun r1 =>
 some ((), (decide (r1.2.1 ≥ 0)), ()))
def containsS_c : Ctr := ⟨[.ro s1, .ro .str], [.val .bool], fun v => containsS v.1 v.2.1⟩
def containsS_g : zG := [(92, indexS_c)]
theorem containsS_eq : EqB containsS_c containsS_g h0 9 Tryz.f74 [4] [] := fun v => by kernel_rfl
def sHas (p0 : tS) (p1 : List UInt8) : Option (Unit × Bool × Unit) :=
 ((sRead p1).bind fun r1 =>
 ((show Option ((Bool × Unit) ⊕ (List UInt8 × tS × Int × Unit)) from
 bif (r1.2.2.1 == 0) then
 some (.inl (false, ()))
 else
 bif (r1.2.2.1 == 1) then
 ((rHas p0.1 r1.2.1).bind fun r3 =>
 some (.inl (r3.2.1, ())))
 else
 some (.inr (p1, p0, r1.2.1, ()))).bind fun y4 =>
 (match y4 with
 | .inl y4 =>
 some ((), y4.1, ())
 | .inr y4 =>
 ((rHas y4.2.1.2.1 y4.2.2.1).bind fun r5 =>
 ((containsS y4.2.1.2.2 y4.1).bind fun r6 =>
 some ((), (!(r5.2.1 == r6.2.1)), ()))))))
def sHas_c : Ctr := ⟨[.ro y5, .ro .str], [.val .bool], fun v => sHas v.1 v.2.1⟩
def sHas_h : zH := fun i => if i = 1020007 then zC [zR [(4, .bool)], zN [(1, .str), (2, .bx y5), (5, yi32)]] else none
def sHas_g : zG := [(73, rHas_c), (72, sRead_c), (74, containsS_c)]
theorem sHas_eq : EqB sHas_c sHas_g sHas_h 32 Tryz.f53 [4] [] := fun v => by kernel_rfl
def row1 (p0 : Int) : Option (Unit × List Int × Bool × Unit) :=
 bif (decide (p0 ≤ 127)) then
 some ((), ([] : List Int), true, ())
 else
 ((show Option (Int × Bool × Unit) from
 bif (decide (p0 ≥ 194)) then
 some (p0, (decide (p0 ≤ 223)), ())
 else
 some (p0, false, ())).bind fun y2 =>
 bif y2.2.1 then
 some ((), [(128 : Int), (191 : Int)], true, ())
 else
 bif (y2.1 == 224) then
 some ((), [(160 : Int), (191 : Int), (128 : Int), (191 : Int)], true, ())
 else
 bif (y2.1 == 237) then
 some ((), [(128 : Int), (159 : Int), (128 : Int), (191 : Int)], true, ())
 else
 ((show Option (Int × Bool × Unit) from
 bif (decide (y2.1 ≥ 225)) then
 some (y2.1, (decide (y2.1 ≤ 239)), ())
 else
 some (y2.1, false, ())).bind fun y4 =>
 bif y4.2.1 then
 some ((), [(128 : Int), (191 : Int), (128 : Int), (191 : Int)], true, ())
 else
 bif (y4.1 == 240) then
 some ((), [(144 : Int), (191 : Int), (128 : Int), (191 : Int), (128 : Int), (191 : Int)], true, ())
 else
 ((show Option (Int × Bool × Unit) from
 bif (decide (y4.1 ≥ 241)) then
 some (y4.1, (decide (y4.1 ≤ 243)), ())
 else
 some (y4.1, false, ())).bind fun y6 =>
 bif y6.2.1 then
 some ((), [(128 : Int), (191 : Int), (128 : Int), (191 : Int), (128 : Int), (191 : Int)], true, ())
 else
 bif (y6.1 == 244) then
 some ((), [(128 : Int), (143 : Int), (128 : Int), (191 : Int), (128 : Int), (191 : Int)], true, ())
 else
 some ((), ([] : List Int), false, ()))))
def row1_c : Ctr := ⟨[.ro yu8], [.val (.slice yu8), .val .bool], fun v => row1 v.1⟩
def row1_h : zH := fun i => if i = 1130014 then zC [zN [(0, yu8), (35, .bool)]] else if i = 1090010 then zC [zN [(0, yu8), (23, .bool)]] else if i = 1030004 then zC [zN [(0, yu8), (7, .bool)]] else none
theorem row1_eq : EqB row1_c [] row1_h 47 Tryz.f112 [2, 3] [] := fun v => by kernel_rfl
def at1_s7 (a0 : List Int) (a1 : Int) (a7 : List Int) (a9 : Int) : Option ((List Int × Int × List Int × Int × Unit) ⊕ (List Int × Int × List Int × Int × Unit)) :=
 ((show Option ((List Int × Int × List Int × Int × Unit) ⊕ (List Int × Int × List Int × Int × Unit)) from
 bif ((2 : Int) != 0) then
 let v9 := (decide (a9 ≤ (IntKind.i64.wrap (Int.tdiv (a7.length : Int) (2 : Int)))))
 bif v9 then
 bif (decide ((IntKind.i64.wrap (a1 + a9)) < (a0.length : Int))) then
 ((lk a0 (IntKind.i64.wrap (a1 + a9))).bind fun x10 =>
 let v11 := (IntKind.i64.wrap ((IntKind.i64.wrap ((2 : Int) * a9)) - 2))
 ((lk a7 v11).bind fun x12 =>
 bif (decide (x10 ≥ x12)) then
 ((lk a0 (IntKind.i64.wrap (a1 + a9))).bind fun x13 =>
 let v14 := (IntKind.i64.wrap ((IntKind.i64.wrap ((2 : Int) * a9)) - 1))
 ((lk a7 v14).bind fun x15 =>
 bif (decide (x13 ≤ x15)) then
 some (.inl (a0, a1, a7, a9, ()))
 else
 some (.inr (a0, a1, a7, a9, ()))))
 else
 some (.inr (a0, a1, a7, a9, ()))))
 else
 some (.inr (a0, a1, a7, a9, ()))
 else
 some (.inr (a0, a1, a7, a9, ()))
 else none).bind fun y16 =>
 (match y16 with
 | .inl y16 =>
 some (.inl (y16.1, y16.2.1, y16.2.2.1, (IntKind.i64.wrap (y16.2.2.2.1 + 1)), ()))
 | .inr y16 =>
 some (.inr (y16.1, y16.2.1, y16.2.2.1, y16.2.2.2.1, ()))))
def at1_s30 (a0 : List Int) (a1 : Int) (a9 : Int) (a10 : Int) (a11 : Int) : Option ((List Int × Int × Int × Int × Int × Unit) ⊕ (Int × Int × Unit)) :=
 ((show Option ((List Int × Int × Int × Int × Int × Unit) ⊕ (Int × Int × Unit)) from
 bif (decide (a11 < a9)) then
 some (.inl (a0, a1, a9, a10, a11, ()))
 else
 some (.inr (a9, a10, ()))).bind fun y32 =>
 (match y32 with
 | .inl y32 =>
 ((show Option (List Int × Int × Int × Int × Int × Unit) from
 ((lk y32.1 (IntKind.i64.wrap (y32.2.1 + y32.2.2.2.2.1))).bind fun x34 =>
 bif ((64 : Int) != 0) then
 let v35 := (IntKind.i32.wrap ((IntKind.i32.wrap (y32.2.2.2.1 * 64)) + (Int.tmod (IntKind.i32.wrap (x34)) (64 : Int))))
 some (y32.1, y32.2.1, y32.2.2.1, v35, y32.2.2.2.2.1, ())
 else none)).bind fun y36 =>
 some (.inl (y36.1, y36.2.1, y36.2.2.1, y36.2.2.2.1, (IntKind.i64.wrap (y36.2.2.2.2.1 + 1)), ())))
 | .inr y32 =>
 some (.inr (y32.1, y32.2.1, ()))))
def at1 (p0 : List Int) (p1 : Int) : Option (Unit × Int × Int × Bool × Unit) :=
 ((lk p0 p1).bind fun x1 =>
 ((row1 x1).bind fun r2 =>
 ((show Option ((Int × Int × Bool × Unit) ⊕ (List Int × Int × List Int × Unit)) from
 bif (!r2.2.2.1) then
 some (.inl ((65533 : Int), (1 : Int), false, ()))
 else
 some (.inr (p0, p1, r2.2.1, ()))).bind fun y4 =>
 (match y4 with
 | .inl y4 =>
 some ((), y4.1, y4.2.1, y4.2.2.1, ())
 | .inr y4 =>
 ((show Option (List Int × Int × List Int × Int × Unit) from
 ((iterN (fun x => at1_s7 x.1 x.2.1 x.2.2.1 x.2.2.2.1) fuN (y4.1, y4.2.1, y4.2.2.1, (1 : Int), ())).bind fun y17 =>
 some (y17.1, y17.2.1, y17.2.2.1, y17.2.2.2.1, ()))).bind fun y18 =>
 ((show Option ((Int × Int × Bool × Unit) ⊕ (List Int × Int × Int × Unit)) from
 bif ((2 : Int) != 0) then
 let v20 := (IntKind.i64.wrap (Int.tdiv (y18.2.2.1.length : Int) (2 : Int)))
 bif (decide (y18.2.2.2.1 ≤ v20)) then
 let v21 := ((IntKind.i64.wrap (y18.2.1 + y18.2.2.2.1)) == (y18.1.length : Int))
 some (.inl ((65533 : Int), y18.2.2.2.1, v21, ()))
 else
 some (.inr (y18.1, y18.2.1, y18.2.2.2.1, ()))
 else none).bind fun y22 =>
 (match y22 with
 | .inl y22 =>
 some ((), y22.1, y22.2.1, y22.2.2.1, ())
 | .inr y22 =>
 ((show Option ((Int × Int × Bool × Unit) ⊕ (List Int × Int × Int × Unit)) from
 bif (y22.2.2.1 == 1) then
 ((lk y22.1 y22.2.1).bind fun x24 =>
 some (.inl ((IntKind.i32.wrap (x24)), (1 : Int), false, ())))
 else
 some (.inr (y22.1, y22.2.1, y22.2.2.1, ()))).bind fun y25 =>
 (match y25 with
 | .inl y25 =>
 some ((), y25.1, y25.2.1, y25.2.2.1, ())
 | .inr y25 =>
 ((lk y25.1 y25.2.1).bind fun x26 =>
 bif (decide (0 ≤ (IntKind.i64.wrap ((7 : Int) - y25.2.2.1)))) then
 let v27 := (IntKind.i32.wrap ((1 : Int) * 2 ^ (min (IntKind.i64.wrap ((7 : Int) - y25.2.2.1)).toNat IntKind.i32.bits)))
 bif (v27 != 0) then
 ((show Option (Int × Int × Unit) from
 ((iterN (fun x => at1_s30 x.1 x.2.1 x.2.2.1 x.2.2.2.1 x.2.2.2.2.1) fuN (y25.1, y25.2.1, y25.2.2.1, (Int.tmod (IntKind.i32.wrap (x26)) v27), (1 : Int), ())).bind fun y37 =>
 some (y37.1, y37.2.1, ()))).bind fun y38 =>
 some ((), y38.2.1, y38.1, false, ()))
 else none
 else none))))))))))
def at1_c : Ctr := ⟨[.ro (.slice yu8), .ro yi64], [.val yi32, .val yi64, .val .bool], fun v => at1 v.1 v.2.1⟩
def at1_h : zH := fun i => if i = 1120016 then zC [zN [(9, yi64), (10, yi32)]] else if i = 13 then zL [(0, .slice yu8), (1, yi64), (9, yi64), (10, yi32), (11, yi64)] [zX 2 [(9, yi64), (10, yi32)]] else if i = 1150014 then zC [zN [(0, .slice yu8), (1, yi64), (9, yi64), (10, yi32), (11, yi64)]] else if i = 1130015 then zC [zN [(0, .slice yu8), (1, yi64), (9, yi64), (10, yi32), (11, yi64)], zX 2 [(9, yi64), (10, yi32)]] else if i = 1090011 then zC [zR [(4, yi32), (5, yi64), (6, .bool)], zN [(0, .slice yu8), (1, yi64), (9, yi64)]] else if i = 1070009 then zC [zR [(4, yi32), (5, yi64), (6, .bool)], zN [(0, .slice yu8), (1, yi64), (9, yi64)]] else if i = 1050007 then zC [zN [(0, .slice yu8), (1, yi64), (7, .slice yu8), (9, yi64)]] else if i = 5 then zL [(0, .slice yu8), (1, yi64), (7, .slice yu8), (9, yi64)] [zX 0 [(0, .slice yu8), (1, yi64), (7, .slice yu8), (9, yi64)]] else if i = 1050006 then zC [zN [(0, .slice yu8), (1, yi64), (7, .slice yu8), (9, yi64)], zX 0 [(0, .slice yu8), (1, yi64), (7, .slice yu8), (9, yi64)]] else if i = 1020004 then zC [zR [(4, yi32), (5, yi64), (6, .bool)], zN [(0, .slice yu8), (1, yi64), (7, .slice yu8)]] else none
def at1_g : zG := [(112, row1_c)]
theorem at1_eq : EqB at1_c at1_g at1_h 113 Tryz.f96 [4, 5, 6] [] := fun v => by kernel_rfl
def decode1_s2 (a0 : List Int) (a1 : Bool) (a5 : List (Int × Int × Int)) (a6 : Int) : Option ((List Int × Bool × List (Int × Int × Int) × Int × Unit) ⊕ ((List (Int × Int × Int) × Unit) ⊕ (List (Int × Int × Int) × Unit))) :=
 ((show Option ((List Int × Bool × List (Int × Int × Int) × Int × Unit) ⊕ (List (Int × Int × Int) × Unit)) from
 bif (decide (a6 < (a0.length : Int))) then
 some (.inl (a0, a1, a5, a6, ()))
 else
 some (.inr (a5, ()))).bind fun y4 =>
 (match y4 with
 | .inl y4 =>
 ((at1 y4.1 y4.2.2.2.1).bind fun r5 =>
 ((show Option ((List (Int × Int × Int) × Unit) ⊕ (List Int × Bool × List (Int × Int × Int) × Int × Int × Int × Unit)) from
 bif y4.2.1 then
 bif r5.2.2.2.1 then
 some (.inl (y4.2.2.1, ()))
 else
 some (.inr (y4.1, y4.2.1, y4.2.2.1, y4.2.2.2.1, r5.2.1, r5.2.2.1, ()))
 else
 some (.inr (y4.1, y4.2.1, y4.2.2.1, y4.2.2.2.1, r5.2.1, r5.2.2.1, ()))).bind fun y7 =>
 (match y7 with
 | .inl y7 =>
 some (.inr (.inl (y7.1, ())))
 | .inr y7 =>
 bif (roomOk (y7.2.2.1.length + [(y7.2.2.2.2.1, y7.2.2.2.1, y7.2.2.2.2.2.1)].length) 24) then
 some (.inl (y7.1, y7.2.1, (y7.2.2.1 ++ [(y7.2.2.2.2.1, y7.2.2.2.1, y7.2.2.2.2.2.1)]), (IntKind.i64.wrap (y7.2.2.2.1 + y7.2.2.2.2.2.1)), ()))
 else none)))
 | .inr y4 =>
 some (.inr (.inr (y4.1, ())))))
def decode1 (p0 : List Int) (p1 : Bool) : Option (Unit × List (Int × Int × Int) × Unit) :=
 ((iterN (fun x => decode1_s2 x.1 x.2.1 x.2.2.1 x.2.2.2.1) fuN (p0, p1, ([] : List (Int × Int × Int)), (0 : Int), ())).bind fun y8 =>
 (match y8 with
 | .inl y8 =>
 some ((), y8.1, ())
 | .inr y8 =>
 some ((), y8.1, ())))
def decode1_c : Ctr := ⟨[.ro (.slice yu8), .ro .bool], [.val (.slice y8)], fun v => decode1 v.1 v.2.1⟩
def decode1_h : zH := fun i => if i = 3 then zL [(0, .slice yu8), (1, .bool), (5, .vec y8), (6, yi64)] [zR [(4, .vec y8)], zX 0 [(5, .vec y8)]] else if i = 1050007 then zC [zR [(4, .vec y8)], zN [(0, .slice yu8), (1, .bool), (5, .vec y8), (6, yi64), (7, yi32), (8, yi64)]] else if i = 1030004 then zC [zN [(0, .slice yu8), (1, .bool), (5, .vec y8), (6, yi64)], zX 0 [(5, .vec y8)]] else none
def decode1_g : zG := [(96, at1_c)]
theorem decode1_eq : EqB decode1_c decode1_g decode1_h 37 Tryz.f83 [4] [] := fun v => by kernel_rfl
def runes1_s3 (a3 : List Int) (a4 : List (Int × Int × Int)) (a5 : Int) : Option ((List Int × List (Int × Int × Int) × Int × Unit) ⊕ (List Int × Unit)) :=
 ((show Option ((List Int × List (Int × Int × Int) × Int × Unit) ⊕ (List Int × Unit)) from
 bif (decide (a5 < (a4.length : Int))) then
 some (.inl (a3, a4, a5, ()))
 else
 some (.inr (a3, ()))).bind fun y5 =>
 (match y5 with
 | .inl y5 =>
 ((show Option (List Int × List (Int × Int × Int) × Int × Unit) from
 ((lk y5.2.1 y5.2.2.1).bind fun x7 =>
 bif (roomOk (y5.1.length + [x7.1].length) 4) then
 some ((y5.1 ++ [x7.1]), y5.2.1, y5.2.2.1, ())
 else none)).bind fun y8 =>
 some (.inl (y8.1, y8.2.1, (IntKind.i64.wrap (y8.2.2.1 + 1)), ())))
 | .inr y5 =>
 some (.inr (y5.1, ()))))
def runes1 (p0 : List Int) : Option (Unit × List Int × Unit) :=
 ((decode1 p0 false).bind fun r1 =>
 ((iterN (fun x => runes1_s3 x.1 x.2.1 x.2.2.1) fuN (([] : List Int), r1.2.1, (0 : Int), ())).bind fun y9 =>
 some ((), y9.1, ())))
def runes1_c : Ctr := ⟨[.ro (.slice yu8)], [.own (.vec yi32)], fun v => runes1 v.1⟩
def runes1_h : zH := fun i => if i = 4 then zL [(3, .vec yi32), (4, .slice y8), (5, yi64)] [zX 0 [(3, .vec yi32)]] else if i = 1060005 then zC [zN [(3, .vec yi32), (4, .slice y8), (5, yi64)]] else if i = 1040006 then zC [zN [(3, .vec yi32), (4, .slice y8), (5, yi64)], zX 0 [(3, .vec yi32)]] else none
def runes1_g : zG := [(83, decode1_c)]
theorem runes1_eq : EqB runes1_c runes1_g runes1_h 23 Tryz.f78 [2] [] := fun v => by kernel_rfl
def valid1 (p0 : Int) : Option (Unit × Bool × Unit) :=
 bif (decide (p0 ≥ 0)) then
 bif (decide (p0 < 1114112)) then
 bif (decide (p0 ≥ 55296)) then
 some ((), (!(decide (p0 < 57344))), ())
 else
 some ((), (!false), ())
 else
 some ((), false, ())
 else
 some ((), false, ())
def valid1_c : Ctr := ⟨[.ro yi32], [.val .bool], fun v => valid1 v.1⟩
theorem valid1_eq : EqB valid1_c [] h0 18 Tryz.f127 [2] [] := fun v => by kernel_rfl
def put1 (p0 : List Int) (p1 : Int) : Option (Unit × List Int × Unit) :=
 ((show Option (List Int × Int × Unit) from
 ((valid1 p1).bind fun r2 =>
 bif (!r2.2.1) then
 some (p0, (65533 : Int), ())
 else
 some (p0, p1, ()))).bind fun y3 =>
 ((show Option ((List Int × Unit) ⊕ (List Int × Int × Unit)) from
 bif (decide (y3.2.1 < 128)) then
 bif (roomOk (y3.1.length + [(IntKind.u8.wrap (y3.2.1))].length) 1) then
 some (.inl ((y3.1 ++ [(IntKind.u8.wrap (y3.2.1))]), ()))
 else none
 else
 some (.inr (y3.1, y3.2.1, ()))).bind fun y5 =>
 (match y5 with
 | .inl y5 =>
 some ((), y5.1, ())
 | .inr y5 =>
 ((show Option ((List Int × Unit) ⊕ (List Int × Int × Unit)) from
 bif (decide (y5.2.1 < 2048)) then
 bif ((64 : Int) != 0) then
 let v7 := (IntKind.i32.wrap ((192 : Int) + (IntKind.i32.wrap (Int.tdiv y5.2.1 (64 : Int)))))
 bif ((64 : Int) != 0) then
 let v8 := (IntKind.i32.wrap ((128 : Int) + (Int.tmod y5.2.1 (64 : Int))))
 bif (roomOk (y5.1.length + [(IntKind.u8.wrap (v7)), (IntKind.u8.wrap (v8))].length) 1) then
 some (.inl ((y5.1 ++ [(IntKind.u8.wrap (v7)), (IntKind.u8.wrap (v8))]), ()))
 else none
 else none
 else none
 else
 some (.inr (y5.1, y5.2.1, ()))).bind fun y9 =>
 (match y9 with
 | .inl y9 =>
 some ((), y9.1, ())
 | .inr y9 =>
 ((show Option ((List Int × Unit) ⊕ (List Int × Int × Unit)) from
 bif (decide (y9.2.1 < 65536)) then
 bif ((4096 : Int) != 0) then
 let v11 := (IntKind.i32.wrap ((224 : Int) + (IntKind.i32.wrap (Int.tdiv y9.2.1 (4096 : Int)))))
 bif ((64 : Int) != 0) then
 bif ((64 : Int) != 0) then
 let v12 := (Int.tmod (IntKind.i32.wrap (Int.tdiv y9.2.1 (64 : Int))) (64 : Int))
 bif ((64 : Int) != 0) then
 let v13 := (IntKind.i32.wrap ((128 : Int) + (Int.tmod y9.2.1 (64 : Int))))
 bif (roomOk (y9.1.length + [(IntKind.u8.wrap (v11)), (IntKind.u8.wrap ((IntKind.i32.wrap ((128 : Int) + v12)))), (IntKind.u8.wrap (v13))].length) 1) then
 let l14 := (y9.1 ++ [(IntKind.u8.wrap (v11)), (IntKind.u8.wrap ((IntKind.i32.wrap ((128 : Int) + v12)))), (IntKind.u8.wrap (v13))])
 some (.inl (l14, ()))
 else none
 else none
 else none
 else none
 else none
 else
 some (.inr (y9.1, y9.2.1, ()))).bind fun y15 =>
 (match y15 with
 | .inl y15 =>
 some ((), y15.1, ())
 | .inr y15 =>
 bif ((262144 : Int) != 0) then
 let v16 := (IntKind.i32.wrap ((240 : Int) + (IntKind.i32.wrap (Int.tdiv y15.2.1 (262144 : Int)))))
 bif ((4096 : Int) != 0) then
 bif ((64 : Int) != 0) then
 let v17 := (Int.tmod (IntKind.i32.wrap (Int.tdiv y15.2.1 (4096 : Int))) (64 : Int))
 bif ((64 : Int) != 0) then
 bif ((64 : Int) != 0) then
 let v18 := (Int.tmod (IntKind.i32.wrap (Int.tdiv y15.2.1 (64 : Int))) (64 : Int))
 bif ((64 : Int) != 0) then
 let v19 := (IntKind.i32.wrap ((128 : Int) + (Int.tmod y15.2.1 (64 : Int))))
 bif (roomOk (y15.1.length + [(IntKind.u8.wrap (v16)), (IntKind.u8.wrap ((IntKind.i32.wrap ((128 : Int) + v17)))), (IntKind.u8.wrap ((IntKind.i32.wrap ((128 : Int) + v18)))), (IntKind.u8.wrap (v19))].length) 1) then
 let l20 := (y15.1 ++ [(IntKind.u8.wrap (v16)), (IntKind.u8.wrap ((IntKind.i32.wrap ((128 : Int) + v17)))), (IntKind.u8.wrap ((IntKind.i32.wrap ((128 : Int) + v18)))), (IntKind.u8.wrap (v19))])
 some ((), l20, ())
 else none
 else none
 else none
 else none
 else none
 else none
 else none)))))))
def put1_c : Ctr := ⟨[.own (.vec yu8), .ro yi32], [.own (.vec yu8)], fun v => put1 v.1 v.2.1⟩
def put1_h : zH := fun i => if i = 1070009 then zC [zR [(4, .vec yu8)], zN [(0, .vec yu8), (1, yi32)]] else if i = 1050007 then zC [zR [(4, .vec yu8)], zN [(0, .vec yu8), (1, yi32)]] else if i = 1030005 then zC [zR [(4, .vec yu8)], zN [(0, .vec yu8), (1, yi32)]] else if i = 1010003 then zC [zN [(0, .vec yu8), (1, yi32)]] else none
def put1_g : zG := [(127, valid1_c)]
theorem put1_eq : EqB put1_c put1_g put1_h 67 Tryz.f108 [4] [] := fun v => by kernel_rfl
def encode1_s2 (a0 : List Int) (a3 : List Int) (a4 : Int) : Option ((List Int × List Int × Int × Unit) ⊕ (List Int × Unit)) :=
 ((show Option ((List Int × List Int × Int × Unit) ⊕ (List Int × Unit)) from
 bif (decide (a4 < (a0.length : Int))) then
 some (.inl (a0, a3, a4, ()))
 else
 some (.inr (a3, ()))).bind fun y4 =>
 (match y4 with
 | .inl y4 =>
 ((show Option (List Int × List Int × Int × Unit) from
 ((lk y4.1 y4.2.2.1).bind fun x6 =>
 ((put1 y4.2.1 x6).bind fun r7 =>
 some (y4.1, r7.2.1, y4.2.2.1, ())))).bind fun y8 =>
 some (.inl (y8.1, y8.2.1, (IntKind.i64.wrap (y8.2.2.1 + 1)), ())))
 | .inr y4 =>
 some (.inr (y4.1, ()))))
def encode1 (p0 : List Int) : Option (Unit × List Int × Unit) :=
 ((iterN (fun x => encode1_s2 x.1 x.2.1 x.2.2.1) fuN (p0, ([] : List Int), (0 : Int), ())).bind fun y9 =>
 some ((), y9.1, ()))
def encode1_c : Ctr := ⟨[.ro (.slice yi32)], [.own (.vec yu8)], fun v => encode1 v.1⟩
def encode1_h : zH := fun i => if i = 3 then zL [(0, .slice yi32), (3, .vec yu8), (4, yi64)] [zX 0 [(3, .vec yu8)]] else if i = 1050004 then zC [zN [(0, .slice yi32), (3, .vec yu8), (4, yi64)]] else if i = 1030005 then zC [zN [(0, .slice yi32), (3, .vec yu8), (4, yi64)], zX 0 [(3, .vec yu8)]] else none
def encode1_g : zG := [(108, put1_c)]
theorem encode1_eq : EqB encode1_c encode1_g encode1_h 18 Tryz.f93 [2] [] := fun v => by kernel_rfl
def good6 (p0 : List UInt8) : Option (Unit × Bool × Unit) :=
 ((runes1 (u8s p0)).bind fun r1 =>
 ((encode1 r1.2.1).bind fun r2 =>
 some ((), ((s8u r2.2.1) == p0), ())))
def good6_c : Ctr := ⟨[.ro .str], [.val .bool], fun v => good6 v.1⟩
def good6_g : zG := [(78, runes1_c), (93, encode1_c)]
theorem good6_eq : EqB good6_c good6_g h0 10 Tryz.f77 [2] [] := fun v => by kernel_rfl
def sameTexts_s4 (a0 : tW) (a1 : tW) (a5 : Int) : Option ((tW × tW × Int × Unit) ⊕ ((Bool × Unit) ⊕ Unit)) :=
 ((show Option ((tW × tW × Int × Unit) ⊕ Unit) from
 bif (decide (a5 < (a0.length : Int))) then
 some (.inl (a0, a1, a5, ()))
 else
 some (.inr ())).bind fun y6 =>
 (match y6 with
 | .inl y6 =>
 ((show Option ((Bool × Unit) ⊕ (tW × tW × Int × Unit)) from
 ((lk y6.1 y6.2.2.1).bind fun x8 =>
 ((lk y6.2.1 y6.2.2.1).bind fun x9 =>
 bif (!(x8 == x9)) then
 some (.inl (false, ()))
 else
 some (.inr (y6.1, y6.2.1, y6.2.2.1, ()))))).bind fun y10 =>
 (match y10 with
 | .inl y10 =>
 some (.inr (.inl (y10.1, ())))
 | .inr y10 =>
 some (.inl (y10.1, y10.2.1, (IntKind.i64.wrap (y10.2.2.1 + 1)), ()))))
 | .inr y6 =>
 some (.inr (.inr ()))))
def sameTexts (p0 : tW) (p1 : tW) : Option (Unit × Bool × Unit) :=
 ((show Option ((Bool × Unit) ⊕ (tW × tW × Unit)) from
 bif ((p0.length : Int) != (p1.length : Int)) then
 some (.inl (false, ()))
 else
 some (.inr (p0, p1, ()))).bind fun y2 =>
 (match y2 with
 | .inl y2 =>
 some ((), y2.1, ())
 | .inr y2 =>
 ((iterN (fun x => sameTexts_s4 x.1 x.2.1 x.2.2.1) fuN (y2.1, y2.2.1, (0 : Int), ())).bind fun y11 =>
 (match y11 with
 | .inl y11 =>
 some ((), y11.1, ())
 | .inr y11 =>
 some ((), true, ())))))
def sameTexts_c : Ctr := ⟨[.ro s1, .ro s1], [.val .bool], fun v => sameTexts v.1 v.2.1⟩
def sameTexts_h : zH := fun i => if i = 4 then zL [(0, s1), (1, s1), (5, yi64)] [zR [(4, .bool)], zX 0 []] else if i = 1060005 then zC [zR [(4, .bool)], zN [(0, s1), (1, s1), (5, yi64)]] else if i = 1040006 then zC [zN [(0, s1), (1, s1), (5, yi64)], zX 0 []] else if i = 1010003 then zC [zR [(4, .bool)], zN [(0, s1), (1, s1)]] else none
theorem sameTexts_eq : EqB sameTexts_c [] sameTexts_h 26 Tryz.f55 [4] [] := fun v => by kernel_rfl
def has6_s13 (a1 : List UInt8) (a2 : tS) (a6 : Bool) (a7 : Int) : Option ((List UInt8 × tS × Bool × Int × Unit) ⊕ ((Bool × Unit) ⊕ (Bool × Unit))) :=
 ((show Option ((List UInt8 × tS × Bool × Int × Unit) ⊕ (Bool × Unit)) from
 bif (decide (a7 < (a2.2.2.length : Int))) then
 some (.inl (a1, a2, a6, a7, ()))
 else
 some (.inr (a6, ()))).bind fun y15 =>
 (match y15 with
 | .inl y15 =>
 ((show Option ((Bool × Unit) ⊕ (List UInt8 × tS × Bool × Int × Unit)) from
 ((lk y15.2.1.2.2 y15.2.2.2.1).bind fun x17 =>
 bif (x17 == y15.1) then
 some (.inl ((!y15.2.2.1), ()))
 else
 some (.inr (y15.1, y15.2.1, y15.2.2.1, y15.2.2.2.1, ())))).bind fun y18 =>
 (match y18 with
 | .inl y18 =>
 some (.inr (.inl (y18.1, ())))
 | .inr y18 =>
 some (.inl (y18.1, y18.2.1, y18.2.2.1, (IntKind.i64.wrap (y18.2.2.2.1 + 1)), ()))))
 | .inr y15 =>
 some (.inr (.inr (y15.1, ())))))
def has6 (p0 : tS) (p1 : List UInt8) : Option (Unit × Bool × Unit) :=
 ((runes1 (u8s p1)).bind fun r1 =>
 ((show Option ((Bool × Unit) ⊕ (List UInt8 × tS × List Int × Unit)) from
 bif ((r1.2.1.length : Int) == 0) then
 some (.inl (false, ()))
 else
 some (.inr (p1, p0, r1.2.1, ()))).bind fun y3 =>
 (match y3 with
 | .inl y3 =>
 some ((), y3.1, ())
 | .inr y3 =>
 ((show Option ((Bool × Unit) ⊕ (List UInt8 × tS × List Int × Unit)) from
 bif ((y3.2.2.1.length : Int) == 1) then
 ((lk y3.2.2.1 (0 : Int)).bind fun _x5 =>
 ((lk y3.2.2.1 (0 : Int)).bind fun x6 =>
 ((refHas y3.2.1.1 x6).bind fun r7 =>
 some (.inl (r7.2.1, ())))))
 else
 some (.inr (y3.1, y3.2.1, y3.2.2.1, ()))).bind fun y8 =>
 (match y8 with
 | .inl y8 =>
 some ((), y8.1, ())
 | .inr y8 =>
 ((lk y8.2.2.1 (0 : Int)).bind fun _x9 =>
 ((lk y8.2.2.1 (0 : Int)).bind fun x10 =>
 ((refHas y8.2.1.2.1 x10).bind fun r11 =>
 ((iterN (fun x => has6_s13 x.1 x.2.1 x.2.2.1 x.2.2.2.1) fuN (y8.1, y8.2.1, r11.2.1, (0 : Int), ())).bind fun y19 =>
 (match y19 with
 | .inl y19 =>
 some ((), y19.1, ())
 | .inr y19 =>
 some ((), y19.1, ())))))))))))
def has6_c : Ctr := ⟨[.ro y5, .ro .str], [.val .bool], fun v => has6 v.1 v.2.1⟩
def has6_h : zH := fun i => if i = 8 then zL [(1, .str), (2, .bx y5), (6, .bool), (7, yi64)] [zR [(4, .bool)], zX 0 [(6, .bool)]] else if i = 1100009 then zC [zR [(4, .bool)], zN [(1, .str), (2, .bx y5), (6, .bool), (7, yi64)]] else if i = 1080010 then zC [zN [(1, .str), (2, .bx y5), (6, .bool), (7, yi64)], zX 0 [(6, .bool)]] else if i = 1040006 then zC [zR [(4, .bool)], zN [(1, .str), (2, .bx y5), (5, .vec yi32)]] else if i = 1020004 then zC [zR [(4, .bool)], zN [(1, .str), (2, .bx y5), (5, .vec yi32)]] else none
def has6_g : zG := [(80, refHas_c), (78, runes1_c)]
theorem has6_eq : EqB has6_c has6_g has6_h 46 Tryz.f59 [4] [] := fun v => by kernel_rfl
def same6 (p0 : tS) (p1 : tS) : Option (Unit × Bool × Unit) :=
 ((refSame p0.1 p1.1).bind fun r1 =>
 bif r1.2.1 then
 ((refSame p0.2.1 p1.2.1).bind fun r2 =>
 bif r2.2.1 then
 ((sameTexts p0.2.2 p1.2.2).bind fun r3 =>
 some ((), r3.2.1, ()))
 else
 some ((), false, ()))
 else
 some ((), false, ()))
def same6_c : Ctr := ⟨[.ro y5, .ro y5], [.val .bool], fun v => same6 v.1 v.2.1⟩
def same6_g : zG := [(54, refSame_c), (55, sameTexts_c)]
theorem same6_eq : EqB same6_c same6_g h0 24 Tryz.f25 [4] [] := fun v => by kernel_rfl
def put6_s3 (a0 : tW) (a1 : List UInt8) (a5 : Int) : Option ((tW × List UInt8 × Int × Unit) ⊕ (tW × List UInt8 × Int × Unit)) :=
 ((show Option ((tW × List UInt8 × Int × Unit) ⊕ (tW × List UInt8 × Int × Unit)) from
 bif (decide (a5 < (a0.length : Int))) then
 ((lk a0 a5).bind fun _x5 =>
 ((lk a0 a5).bind fun x6 =>
 bif (Op.bytesLess x6 a1) then
 some (.inl (a0, a1, a5, ()))
 else
 some (.inr (a0, a1, a5, ()))))
 else
 some (.inr (a0, a1, a5, ()))).bind fun y7 =>
 (match y7 with
 | .inl y7 =>
 some (.inl (y7.1, y7.2.1, (IntKind.i64.wrap (y7.2.2.1 + 1)), ()))
 | .inr y7 =>
 some (.inr (y7.1, y7.2.1, y7.2.2.1, ()))))
def put6_s16 (a0 : tW) (a1 : List UInt8) (a5 : Int) (a6 : Int) : Option ((tW × List UInt8 × Int × Int × Unit) ⊕ (tW × Unit)) :=
 ((show Option ((tW × List UInt8 × Int × Int × Unit) ⊕ (tW × Unit)) from
 bif (decide (a6 > a5)) then
 some (.inl (a0, a1, a5, a6, ()))
 else
 some (.inr (a0, ()))).bind fun y18 =>
 (match y18 with
 | .inl y18 =>
 ((show Option (tW × List UInt8 × Int × Int × Unit) from
 ((lk y18.1 (IntKind.i64.wrap (y18.2.2.2.1 - 1))).bind fun _x20 =>
 ((lk y18.1 (IntKind.i64.wrap (y18.2.2.2.1 - 1))).bind fun x21 =>
 ((lk y18.1 y18.2.2.2.1).bind fun _x22 =>
 ((lk y18.1 y18.2.2.2.1).bind fun x23 =>
 ((lk (y18.1.set y18.2.2.2.1.toNat x21) (IntKind.i64.wrap (y18.2.2.2.1 - 1))).bind fun _x24 =>
 ((lk (y18.1.set y18.2.2.2.1.toNat x21) (IntKind.i64.wrap (y18.2.2.2.1 - 1))).bind fun x25 =>
 let l26 := ((y18.1.set y18.2.2.2.1.toNat x21).set (IntKind.i64.wrap (y18.2.2.2.1 - 1)).toNat y18.2.1)
 some (l26, y18.2.1, y18.2.2.1, y18.2.2.2.1, ())))))))).bind fun y27 =>
 some (.inl (y27.1, y27.2.1, y27.2.2.1, (IntKind.i64.wrap (y27.2.2.2.1 - 1)), ())))
 | .inr y18 =>
 some (.inr (y18.1, ()))))
def put6 (p0 : tW) (p1 : List UInt8) : Option (Unit × tW × Unit) :=
 ((show Option (tW × List UInt8 × Int × Unit) from
 ((iterN (fun x => put6_s3 x.1 x.2.1 x.2.2.1) fuN (p0, p1, (0 : Int), ())).bind fun y8 =>
 some (y8.1, y8.2.1, y8.2.2.1, ()))).bind fun y9 =>
 ((show Option ((tW × Unit) ⊕ (tW × List UInt8 × Int × Unit)) from
 bif (decide (y9.2.2.1 < (y9.1.length : Int))) then
 ((lk y9.1 y9.2.2.1).bind fun _x11 =>
 ((lk y9.1 y9.2.2.1).bind fun x12 =>
 bif (x12 == y9.2.1) then
 some (.inl (y9.1, ()))
 else
 some (.inr (y9.1, y9.2.1, y9.2.2.1, ()))))
 else
 some (.inr (y9.1, y9.2.1, y9.2.2.1, ()))).bind fun y13 =>
 (match y13 with
 | .inl y13 =>
 some ((), y13.1, ())
 | .inr y13 =>
 bif (roomOk (y13.1.length + [y13.2.1].length) 16) then
 let v14 := (IntKind.i64.wrap (((y13.1 ++ [y13.2.1]).length : Int) - 1))
 ((iterN (fun x => put6_s16 x.1 x.2.1 x.2.2.1 x.2.2.2.1) fuN ((y13.1 ++ [y13.2.1]), y13.2.1, y13.2.2.1, v14, ())).bind fun y28 =>
 some ((), y28.1, ()))
 else none)))
def put6_c : Ctr := ⟨[.own (.vec .str), .ro .str], [.own (.vec .str)], fun v => put6 v.1 v.2.1⟩
def put6_h : zH := fun i => if i = 8 then zL [(0, .vec .str), (1, .str), (5, yi64), (6, yi64)] [zX 2 [(0, .vec .str)]] else if i = 1100009 then zC [zN [(0, .vec .str), (1, .str), (5, yi64), (6, yi64)]] else if i = 1080010 then zC [zN [(0, .vec .str), (1, .str), (5, yi64), (6, yi64)], zX 2 [(0, .vec .str)]] else if i = 1040006 then zC [zR [(4, .vec .str)], zN [(0, .vec .str), (1, .str), (5, yi64)]] else if i = 1020004 then zC [zN [(0, .vec .str), (1, .str), (5, yi64)]] else if i = 2 then zL [(0, .vec .str), (1, .str), (5, yi64)] [zX 0 [(0, .vec .str), (1, .str), (5, yi64)]] else if i = 1020003 then zC [zN [(0, .vec .str), (1, .str), (5, yi64)], zX 0 [(0, .vec .str), (1, .str), (5, yi64)]] else none
theorem put6_eq : EqB put6_c [] put6_h 60 Tryz.f79 [4] [] := fun v => by kernel_rfl
def odd6_s2 (a0 : tW) (a3 : tW) (a4 : Int) : Option ((tW × tW × Int × Unit) ⊕ (tW × Unit)) :=
 ((show Option ((tW × tW × Int × Unit) ⊕ (tW × Unit)) from
 bif (decide (a4 < (a0.length : Int))) then
 some (.inl (a0, a3, a4, ()))
 else
 some (.inr (a3, ()))).bind fun y4 =>
 (match y4 with
 | .inl y4 =>
 ((show Option (tW × tW × Int × Unit) from
 ((show Option (tW × tW × Int × Bool × Unit) from
 ((lk y4.1 y4.2.2.1).bind fun x7 =>
 ((good6 x7).bind fun r8 =>
 bif r8.2.1 then
 ((lk y4.1 y4.2.2.1).bind fun x9 =>
 ((runes1 (u8s x9)).bind fun r10 =>
 some (y4.1, y4.2.1, y4.2.2.1, (decide ((r10.2.1.length : Int) > 1)), ())))
 else
 some (y4.1, y4.2.1, y4.2.2.1, false, ())))).bind fun y11 =>
 bif y11.2.2.2.1 then
 ((lk y11.1 y11.2.2.1).bind fun x12 =>
 ((put6 y11.2.1 x12).bind fun r13 =>
 some (y11.1, r13.2.1, y11.2.2.1, ())))
 else
 some (y11.1, y11.2.1, y11.2.2.1, ()))).bind fun y14 =>
 some (.inl (y14.1, y14.2.1, (IntKind.i64.wrap (y14.2.2.1 + 1)), ())))
 | .inr y4 =>
 some (.inr (y4.1, ()))))
def odd6 (p0 : tW) : Option (Unit × tW × Unit) :=
 ((iterN (fun x => odd6_s2 x.1 x.2.1 x.2.2.1) fuN (p0, ([] : tW), (0 : Int), ())).bind fun y15 =>
 some ((), y15.1, ()))
def odd6_c : Ctr := ⟨[.ro s1], [.own (.vec .str)], fun v => odd6 v.1⟩
def odd6_h : zH := fun i => if i = 3 then zL [(0, s1), (3, .vec .str), (4, yi64)] [zX 0 [(3, .vec .str)]] else if i = 1050004 then zC [zN [(0, s1), (3, .vec .str), (4, yi64)]] else if i = 1050006 then zC [zN [(0, s1), (3, .vec .str), (4, yi64), (25, .bool)]] else if i = 1030005 then zC [zN [(0, s1), (3, .vec .str), (4, yi64)], zX 0 [(3, .vec .str)]] else none
def odd6_g : zG := [(78, runes1_c), (77, good6_c), (79, put6_c)]
theorem odd6_eq : EqB odd6_c odd6_g odd6_h 33 Tryz.f57 [2] [] := fun v => by kernel_rfl
def norm6 (p0 : tS) : Option (Unit × tS × Unit) :=
 ((refNorm p0.1).bind fun r1 =>
 ((refNorm p0.2.1).bind fun r2 =>
 ((odd6 p0.2.2).bind fun r3 =>
 some ((), (r1.2.1, r2.2.1, r3.2.1), ()))))
def norm6_c : Ctr := ⟨[.ro y5], [.own (.st (.pair (.vec y2) (.pair (.vec y2) (.vec .str))))], fun v => norm6 v.1⟩
def norm6_g : zG := [(56, refNorm_c), (57, odd6_c)]
theorem norm6_eq : EqB norm6_c norm6_g h0 13 Tryz.f26 [13] [(2, 70)] := fun v => by kernel_rfl
def spNew (p0 : Int) : Option (Unit × tQ × Unit) :=
 let v0 := (if (65536 : Int) < (if (0 : Int) > p0 then (0 : Int) else p0) then (65536 : Int) else (if (0 : Int) > p0 then (0 : Int) else p0))
 bif (mkOk 8 v0 v0) then
 some ((), ((List.replicate (Int.toNat v0) (0 : Int)), ([] : List Int)), ())
 else none
def spNew_c : Ctr := ⟨[.ro yi64], [.own (.bx (.st (.pair (.vec yi64) (.vec yi64))))], fun v => spNew v.1⟩
theorem spNew_eq : EqB spNew_c [] h0 9 Tryz.f46 [2] [] := fun v => by kernel_rfl
def spHas (p0 : Option tQ) (p1 : Int) : Option (Unit × Bool × Unit) :=
 ((show Option ((Bool × Unit) ⊕ (Option tQ × Int × Unit)) from
 bif (Option.isNone p0) then
 some (.inl (false, ()))
 else
 bif (decide (p1 < 0)) then
 some (.inl (false, ()))
 else
 ((p0).bind fun q2 =>
 bif (decide (p1 ≥ (q2.1.length : Int))) then
 some (.inl (false, ()))
 else
 some (.inr (p0, p1, ())))).bind fun y3 =>
 (match y3 with
 | .inl y3 =>
 some ((), y3.1, ())
 | .inr y3 =>
 ((y3.1).bind fun q4 =>
 ((lk q4.1 y3.2.1).bind fun x5 =>
 ((y3.1).bind fun q6 =>
 bif (decide (x5 < (q6.2.length : Int))) then
 ((y3.1).bind fun q7 =>
 ((lk q7.2 x5).bind fun x8 =>
 some ((), (x8 == y3.2.1), ())))
 else
 some ((), false, ()))))))
def spHas_c : Ctr := ⟨[.ro (.ptr (.st (.pair (.slice yi64) (.slice yi64)))), .ro yi64], [.val .bool], fun v => spHas v.1 v.2.1⟩
def spHas_h : zH := fun i => if i = 1010003 then zC [zR [(4, .bool)], zN [(0, .ptr (.st (.pair (.slice yi64) (.slice yi64)))), (1, yi64)]] else none
theorem spHas_eq : EqB spHas_c [] spHas_h 46 Tryz.f87 [4] [] := fun v => by kernel_rfl
def spAdd (p0 : tQ) (p1 : Int) : Option (tQ × Bool × Unit) :=
 ((show Option ((tQ × Bool × Unit) ⊕ (tQ × Int × Unit)) from
 bif (decide (p1 < 0)) then
 some (.inl (p0, false, ()))
 else
 bif (decide (p1 ≥ (p0.1.length : Int))) then
 some (.inl (p0, false, ()))
 else
 ((spHas (some p0) p1).bind fun r2 =>
 bif r2.2.1 then
 some (.inl (p0, false, ()))
 else
 some (.inr (p0, p1, ())))).bind fun y3 =>
 (match y3 with
 | .inl y3 =>
 some (y3.1, y3.2.1, ())
 | .inr y3 =>
 ((lk y3.1.1 y3.2.1).bind fun _x4 =>
 ((lk y3.1.1 y3.2.1).bind fun x5 =>
 bif (roomOk (y3.1.2.length + [y3.2.1].length) 8) then
 some (((y3.1.1.set y3.2.1.toNat (y3.1.2.length : Int)), (y3.1.2 ++ [y3.2.1])), true, ())
 else none))))
def spAdd_c : Ctr := ⟨[.mu (.bx (.st (.pair (.vec yi64) (.vec yi64)))), .ro yi64], [.val .bool], fun v => spAdd v.1 v.2.1⟩
def spAdd_h : zH := fun i => if i = 1010003 then zC [zR [(0, .bx (.st (.pair (.vec yi64) (.vec yi64)))), (4, .bool)], zN [(0, .bx (.st (.pair (.vec yi64) (.vec yi64)))), (1, yi64)]] else none
def spAdd_g : zG := [(87, spHas_c)]
theorem spAdd_eq : EqB spAdd_c spAdd_g spAdd_h 46 Tryz.f70 [4] [] := fun v => by kernel_rfl
def spLen (p0 : Option tQ) : Option (Unit × Int × Unit) :=
 ((show Option ((Int × Unit) ⊕ (Option tQ × Unit)) from
 bif (Option.isNone p0) then
 some (.inl ((0 : Int), ()))
 else
 some (.inr (p0, ()))).bind fun y2 =>
 (match y2 with
 | .inl y2 =>
 some ((), y2.1, ())
 | .inr y2 =>
 ((y2.1).bind fun q3 =>
 some ((), (q3.2.length : Int), ()))))
def spLen_c : Ctr := ⟨[.ro (.ptr (.st (.pair (.slice yi64) (.slice yi64))))], [.val yi64], fun v => spLen v.1⟩
def spLen_h : zH := fun i => if i = 1010003 then zC [zR [(2, yi64)], zN [(0, .ptr (.st (.pair (.slice yi64) (.slice yi64))))]] else none
theorem spLen_eq : EqB spLen_c [] spLen_h 10 Tryz.f51 [2] [] := fun v => by kernel_rfl
def spClear (p0 : tQ) : Option (tQ × Unit) :=
 bif (inB (0 : Int) (0 : Int) p0.2.length) then
 some ((p0.1, (((p0.2).drop (0 : Int).toNat).take ((0 : Int) - 0).toNat)), ())
 else none
def spClear_c : Ctr := ⟨[.mu (.bx (.st (.pair (.vec yi64) (.vec yi64))))], [], fun v => spClear v.1⟩
theorem spClear_eq : EqB spClear_c [] h0 12 Tryz.f47 [] [] := fun v => by kernel_rfl
def cloneI0 (p0 : (List Int × Bool)) : Option (Unit × List Int × Unit) :=
 ((show Option ((Unit × Unit) ⊕ ((List Int × Bool) × Unit)) from
 bif p0.2 then
 some (.inl ((), ()))
 else
 some (.inr (p0, ()))).bind fun y1 =>
 (match y1 with
 | .inl y1 =>
 some ((), ([] : List Int), ())
 | .inr y1 =>
 bif (roomOk (([] : List Int).length + y1.1.1.length) 8) then
 some ((), (([] : List Int) ++ y1.1.1), ())
 else none))
def cloneI0_c : Ctr := ⟨[.ro (.sln yi64)], [.own (.vec yi64)], fun v => cloneI0 v.1⟩
def cloneI0_h : zH := fun i => if i = 1010003 then zC [zR [(2, .nils)], zN [(0, (.sln yi64))]] else none
theorem cloneI0_eq : EqB cloneI0_c [] cloneI0_h 8 Tryz.f71 [2] [] := fun v => by kernel_rfl
def spVals (p0 : Option tQ) : Option (Unit × List Int × Unit) :=
 ((show Option ((Unit × Unit) ⊕ (Option tQ × Unit)) from
 bif (Option.isNone p0) then
 some (.inl ((), ()))
 else
 some (.inr (p0, ()))).bind fun y1 =>
 (match y1 with
 | .inl y1 =>
 some ((), ([] : List Int), ())
 | .inr y1 =>
 ((y1.1).bind fun q2 =>
 ((cloneI q2.2).bind fun r3 =>
 some ((), r3.2.1, ())))))
def spVals_c : Ctr := ⟨[.ro (.ptr (.st (.pair (.slice yi64) (.slice yi64))))], [.own (.vec yi64)], fun v => spVals v.1⟩
def spVals_h : zH := fun i => if i = 1010003 then zC [zR [(2, .nils)], zN [(0, .ptr (.st (.pair (.slice yi64) (.slice yi64))))]] else none
def spVals_g : zG := [(71, cloneI_c)]
theorem spVals_eq : EqB spVals_c spVals_g spVals_h 10 Tryz.f52 [2] [] := fun v => by kernel_rfl
def pMayIn (p0 : Int) (p1 : Int) : Option (Unit × Bool × Unit) :=
 bif (decide (p0 ≥ 0)) then
 some ((), (decide (p0 < p1)), ())
 else
 some ((), false, ())
def pMayIn_c : Ctr := ⟨[.ro yi64, .ro (.rad yi64 0)], [.val .bool], fun v => pMayIn v.1 v.2.1⟩
theorem pMayIn_eq : EqB pMayIn_c [] h0 11 Tryz.f68 [3] [] := fun v => by kernel_rfl
def pMay1 (p0 : tN) (p1 : Int) : Option (Unit × Bool × Unit) :=
 let v1 := (IntKind.i64.wrap ((p0.2.1.1.length : Int) + (p0.2.1.2.1.length : Int)))
 let v2 := ((IntKind.i64.wrap (v1 + (p0.2.1.2.2.length : Int))) == 0)
 bif (p0.1 == 1) then
 ((sMay p0.2.1).bind fun r3 =>
 bif r3.2.1 then
 bif (p0.2.2.1 == 0) then
 some ((), (p0.2.2.2 == 0), ())
 else
 some ((), false, ())
 else
 some ((), false, ()))
 else
 bif (p0.1 == 2) then
 bif v2 then
 ((pMayIn p0.2.2.1 p1).bind fun r4 =>
 bif r4.2.1 then
 ((pMayIn p0.2.2.2 p1).bind fun r5 =>
 some ((), r5.2.1, ()))
 else
 some ((), false, ()))
 else
 some ((), false, ())
 else
 bif (p0.1 == 3) then
 bif v2 then
 ((pMayIn p0.2.2.1 p1).bind fun r6 =>
 bif r6.2.1 then
 some ((), (p0.2.2.2 == 0), ())
 else
 some ((), false, ()))
 else
 some ((), false, ())
 else
 ((show Option (tN × Bool × Bool × Unit) from
 bif (p0.1 == 4) then
 some (p0, v2, (p0.1 == 4), ())
 else
 bif (p0.1 == 5) then
 some (p0, v2, (p0.1 == 5), ())
 else
 some (p0, v2, (p0.1 == 6), ())).bind fun y8 =>
 bif y8.2.2.1 then
 bif y8.2.1 then
 bif (y8.1.2.2.1 == 0) then
 some ((), (y8.1.2.2.2 == 0), ())
 else
 some ((), false, ())
 else
 some ((), false, ())
 else
 some ((), false, ()))
def pMay1_c : Ctr := ⟨[.ro y0, .ro yi64], [.val .bool], fun v => pMay1 v.1 v.2.1⟩
def pMay1_h : zH := fun i => if i = 1100013 then zC [zN [(2, .bx y0), (5, .bool), (69, .bool)]] else none
def pMay1_g : zG := [(69, sMay_c), (68, pMayIn_c)]
theorem pMay1_eq : EqB pMay1_c pMay1_g pMay1_h 84 Tryz.f45 [4] [] := fun v => by kernel_rfl
def pMayF (p0 : tN) (p1 : tG) : Option (Unit × Bool × Unit) :=
 ((pMay1 p0 (p1.length : Int)).bind fun r1 =>
 some ((), (!r1.2.1), ()))
def pMayF_c : Ctr := ⟨[.ro y0, .ro (.rad s0 0)], [.val .bool], fun v => pMayF v.1 v.2.1⟩
def pMayF_g : zG := [(45, pMay1_c)]
theorem pMayF_eq : EqB pMayF_c pMayF_g h0 9 Tryz.f44 [3] [] := fun v => by kernel_rfl
def indexFuncP_s2 (a0 : tG) (a1 : (tG × Unit)) (a7 : Int) (a8 : Int) : Option ((tG × (tG × Unit) × Int × Int × Unit) ⊕ ((Int × Unit) ⊕ Unit)) :=
 bif (decide (a8 < a7)) then
 ((lk a0 a8).bind fun x3 =>
 ((pMayF x3 a1.1).bind fun r4 =>
 bif r4.2.1 then
 some (.inr (.inl (a8, ())))
 else
 some (.inl (a0, a1, a7, (IntKind.i64.wrap (a8 + 1)), ()))))
 else
 some (.inr (.inr ()))
def indexFuncP (p0 : tG) (p1 : (tG × Unit)) : Option (Unit × Int × Unit) :=
 ((iterN (fun x => indexFuncP_s2 x.1 x.2.1 x.2.2.1 x.2.2.2.1) fuN (p0, p1, (p0.length : Int), (0 : Int), ())).bind fun y5 =>
 (match y5 with
 | .inl y5 =>
 some ((), y5.1, ())
 | .inr y5 =>
 some ((), (-1 : Int), ())))
def indexFuncP_c : Ctr := ⟨[.ro s0, .ro (.clo 44 (.pair (.rad s0 0) .unit))], [.val yi64], fun v => indexFuncP v.1 v.2.1⟩
def indexFuncP_h : zH := fun i => if i = 2 then zL [(0, s0), (1, (.clo 44 (.pair (.rad s0 0) .unit))), (7, yi64), (8, yi64)] [zR [(4, yi64)], zX 0 []] else none
def indexFuncP_g : zG := [(44, pMayF_c)]
theorem indexFuncP_eq : EqB indexFuncP_c indexFuncP_g indexFuncP_h 19 Tryz.f67 [4] [] := fun v => by kernel_rfl
def containsFuncP (p0 : tG) (p1 : (tG × Unit)) : Option (Unit × Bool × Unit) :=
 ((indexFuncP p0 p1).bind fun r1 =>
 some ((), (decide (r1.2.1 ≥ 0)), ()))
def containsFuncP_c : Ctr := ⟨[.ro s0, .ro (.clo 44 (.pair (.rad s0 0) .unit))], [.val .bool], fun v => containsFuncP v.1 v.2.1⟩
def containsFuncP_g : zG := [(67, indexFuncP_c)]
theorem containsFuncP_eq : EqB containsFuncP_c containsFuncP_g h0 9 Tryz.f43 [4] [] := fun v => by kernel_rfl
def pMay (p0 : tG) : Option (Unit × Bool × Unit) :=
 ((show Option ((Bool × Unit) ⊕ (tG × Unit)) from
 bif (decide ((p0.length : Int) < 1)) then
 some (.inl (false, ()))
 else
 bif (decide ((p0.length : Int) > 4096)) then
 some (.inl (false, ()))
 else
 ((lk p0 (IntKind.i64.wrap ((p0.length : Int) - 1))).bind fun x2 =>
 bif (x2.1 != 6) then
 some (.inl (false, ()))
 else
 some (.inr (p0, ())))).bind fun y3 =>
 (match y3 with
 | .inl y3 =>
 some ((), y3.1, ())
 | .inr y3 =>
 ((containsFuncP y3.1 (y3.1, ())).bind fun r4 =>
 some ((), (!r4.2.1), ()))))
def pMay_c : Ctr := ⟨[.ro s0], [.val .bool], fun v => pMay v.1⟩
def pMay_h : zH := fun i => if i = 1010003 then zC [zR [(2, .bool)], zN [(1, .bx s0)]] else none
def pMay_g : zG := [(43, containsFuncP_c)]
theorem pMay_eq : EqB pMay_c pMay_g pMay_h 25 Tryz.f22 [2] [] := fun v => by kernel_rfl
def pMade (p0 : tG) (p1 : tW) (p2 : Bool) (p3 : Bool) : Option (Unit × tM × Unit) :=
 ((spNew (p0.length : Int)).bind fun r0 =>
 ((spNew (p0.length : Int)).bind fun r1 =>
 some ((), (p0, p1, p2, p3, r0.2.1, r1.2.1, ([] : List Int), (0 : Int)), ())))
def pMade_c : Ctr := ⟨[.ro s0, .ro s1, .ro .bool, .ro .bool], [.own y1], fun v => pMade v.1 v.2.1 v.2.2.1 v.2.2.2.1⟩
def pMade_g : zG := [(46, spNew_c)]
theorem pMade_eq : EqB pMade_c pMade_g h0 21 Tryz.f23 [8] [] := fun v => by kernel_rfl
def pReach_s2 (a0 : tM) (a2 : Int) : Option ((tM × Int × Unit) ⊕ (tM × Unit)) :=
 ((show Option ((tM × Int × Unit) ⊕ (tM × Unit)) from
 bif (decide ((a0.2.2.2.2.2.2.1.length : Int) > 0)) then
 some (.inl (a0, a2, ()))
 else
 some (.inr (a0, ()))).bind fun y4 =>
 (match y4 with
 | .inl y4 =>
 let v5 := (IntKind.i64.wrap ((y4.1.2.2.2.2.2.2.1.length : Int) - 1))
 ((lk y4.1.2.2.2.2.2.2.1 v5).bind fun _x6 =>
 ((lk y4.1.2.2.2.2.2.2.1 v5).bind fun x7 =>
 let v8 := (IntKind.i64.wrap ((y4.1.2.2.2.2.2.2.1.length : Int) - 1))
 bif (inB (0 : Int) v8 y4.1.2.2.2.2.2.2.1.length) then
 ((show Option ((tM × Int × Unit) ⊕ (tM × Int × Int × Unit)) from
 ((spAdd y4.1.2.2.2.2.2.1 x7).bind fun r10 =>
 bif (!r10.2.1) then
 some (.inl ((y4.1.1, y4.1.2.1, y4.1.2.2.1, y4.1.2.2.2.1, y4.1.2.2.2.2.1, r10.1, (((y4.1.2.2.2.2.2.2.1).drop (0 : Int).toNat).take (v8 - 0).toNat), y4.1.2.2.2.2.2.2.2), y4.2.1, ()))
 else
 some (.inr ((y4.1.1, y4.1.2.1, y4.1.2.2.1, y4.1.2.2.2.1, y4.1.2.2.2.2.1, r10.1, (((y4.1.2.2.2.2.2.2.1).drop (0 : Int).toNat).take (v8 - 0).toNat), y4.1.2.2.2.2.2.2.2), y4.2.1, x7, ())))).bind fun y11 =>
 (match y11 with
 | .inl y11 =>
 some (.inl (y11.1, y11.2.1, ()))
 | .inr y11 =>
 ((lk y11.1.1 y11.2.2.1).bind fun x12 =>
 bif (x12.1 == 2) then
 bif (roomOk (y11.1.2.2.2.2.2.2.1.length + [x12.2.2.2, x12.2.2.1].length) 8) then
 some (.inl ((y11.1.1, y11.1.2.1, y11.1.2.2.1, y11.1.2.2.2.1, y11.1.2.2.2.2.1, y11.1.2.2.2.2.2.1, (y11.1.2.2.2.2.2.2.1 ++ [x12.2.2.2, x12.2.2.1]), y11.1.2.2.2.2.2.2.2), y11.2.1, ()))
 else none
 else
 bif (x12.1 == 3) then
 bif (roomOk (y11.1.2.2.2.2.2.2.1.length + [x12.2.2.1].length) 8) then
 some (.inl ((y11.1.1, y11.1.2.1, y11.1.2.2.1, y11.1.2.2.2.1, y11.1.2.2.2.2.1, y11.1.2.2.2.2.2.1, (y11.1.2.2.2.2.2.2.1 ++ [x12.2.2.1]), y11.1.2.2.2.2.2.2.2), y11.2.1, ()))
 else none
 else
 ((show Option (tM × Int × Int × Bool × Unit) from
 ((show Option (tM × Int × Int × tN × Bool × Unit) from
 bif (x12.1 == 4) then
 bif y11.1.2.2.1 then
 some (y11.1, y11.2.1, y11.2.2.1, x12, (y11.2.1 == 0), ())
 else
 some (y11.1, y11.2.1, y11.2.2.1, x12, false, ())
 else
 some (y11.1, y11.2.1, y11.2.2.1, x12, false, ())).bind fun y15 =>
 bif y15.2.2.2.2.1 then
 some (y15.1, y15.2.1, y15.2.2.1, y15.2.2.2.2.1, ())
 else
 bif (y15.2.2.2.1.1 == 5) then
 bif y15.1.2.2.2.1 then
 some (y15.1, y15.2.1, y15.2.2.1, (y15.2.1 == (y15.1.2.1.length : Int)), ())
 else
 some (y15.1, y15.2.1, y15.2.2.1, false, ())
 else
 some (y15.1, y15.2.1, y15.2.2.1, false, ()))).bind fun y16 =>
 bif y16.2.2.2.1 then
 bif (roomOk (y16.1.2.2.2.2.2.2.1.length + [(IntKind.i64.wrap (y16.2.2.1 + 1))].length) 8) then
 let l17 := (y16.1.2.2.2.2.2.2.1 ++ [(IntKind.i64.wrap (y16.2.2.1 + 1))])
 some (.inl ((y16.1.1, y16.1.2.1, y16.1.2.2.1, y16.1.2.2.2.1, y16.1.2.2.2.2.1, y16.1.2.2.2.2.2.1, l17, y16.1.2.2.2.2.2.2.2), y16.2.1, ()))
 else none
 else
 some (.inl (y16.1, y16.2.1, ()))))))
 else none))
 | .inr y4 =>
 some (.inr (y4.1, ()))))
def pReach (p0 : tM) (p1 : Int) (p2 : Int) : Option (tM × Unit) :=
 bif (roomOk (p0.2.2.2.2.2.2.1.length + [p1].length) 8) then
 ((iterN (fun x => pReach_s2 x.1 x.2.1) fuN ((p0.1, p0.2.1, p0.2.2.1, p0.2.2.2.1, p0.2.2.2.2.1, p0.2.2.2.2.2.1, (p0.2.2.2.2.2.2.1 ++ [p1]), p0.2.2.2.2.2.2.2), p2, ())).bind fun y18 =>
 some (y18.1, ()))
 else none
def pReach_c : Ctr := ⟨[.mu y1, .ro yi64, .ro yi64], [], fun v => pReach v.1 v.2.1 v.2.2.1⟩
def pReach_h : zH := fun i => if i = 1 then zL [(0, y1), (2, yi64)] [zX 0 [(0, y1)]] else if i = 1100012 then zC [zN [(0, y1), (2, yi64), (6, yi64), (96, .bool)]] else if i = 1100011 then zC [zN [(0, y1), (2, yi64), (6, yi64), (7, .bx y0), (96, .bool)]] else if i = 1040005 then zC [zX 1 [(0, y1), (2, yi64)], zN [(0, y1), (2, yi64), (6, yi64)]] else if i = 1010002 then zC [zN [(0, y1), (2, yi64)], zX 0 [(0, y1)]] else none
def pReach_g : zG := [(70, spAdd_c)]
theorem pReach_eq : EqB pReach_c pReach_g pReach_h 139 Tryz.f48 [] [] := fun v => by kernel_rfl
def pTurn (p0 : tM) : Option (tM × Unit) :=
 ((spClear p0.2.2.2.2.1).bind fun r1 =>
 ((spLen (some p0.2.2.2.2.2.1)).bind fun r2 =>
 some ((p0.1, p0.2.1, p0.2.2.1, p0.2.2.2.1, p0.2.2.2.2.2.1, r1.1, p0.2.2.2.2.2.2.1, (IntKind.i64.wrap (p0.2.2.2.2.2.2.2 + r2.2.1))), ())))
def pTurn_c : Ctr := ⟨[.mu y1], [], fun v => pTurn v.1⟩
def pTurn_g : zG := [(51, spLen_c), (47, spClear_c)]
theorem pTurn_eq : EqB pTurn_c pTurn_g h0 33 Tryz.f49 [] [] := fun v => by kernel_rfl
def pHas_s8 (a0 : Option (tG × tW × Bool × Bool × Option tQ × Option tQ × List Int × Int)) (a1 : List Int) (a6 : Int) (a13 : List Int) (a14 : Int) (a15 : Int) (a19 : List Int) (a20 : Int) (a21 : Int) : Option ((Option (tG × tW × Bool × Bool × Option tQ × Option tQ × List Int × Int) × List Int × Int × List Int × Int × Int × List Int × Int × Int × Unit) ⊕ ((Bool × Unit) ⊕ (Option (tG × tW × Bool × Bool × Option tQ × Option tQ × List Int × Int) × List Int × List Int × Int × Int × Unit))) :=
 bif (decide (a21 < a20)) then
 ((lk a19 a21).bind fun x9 =>
 ((a0).bind fun q10 =>
 ((lk q10.1 a6).bind fun x11 =>
 bif (x11.1 == x9) then
 some (.inr (.inl (true, ())))
 else
 some (.inl (a0, a1, a6, a13, a14, a15, a19, a20, (IntKind.i64.wrap (a21 + 1)), ())))))
 else
 some (.inr (.inr (a0, a1, a13, a14, a15, ())))
def pHas_s4 (a0 : Option (tG × tW × Bool × Bool × Option tQ × Option tQ × List Int × Int)) (a1 : List Int) (a13 : List Int) (a14 : Int) (a15 : Int) : Option ((Option (tG × tW × Bool × Bool × Option tQ × Option tQ × List Int × Int) × List Int × List Int × Int × Int × Unit) ⊕ ((Bool × Unit) ⊕ Unit)) :=
 bif (decide (a15 < a14)) then
 ((lk a13 a15).bind fun _x5 =>
 ((lk a13 a15).bind fun x6 =>
 ((iterN (fun x => pHas_s8 x.1 x.2.1 x.2.2.1 x.2.2.2.1 x.2.2.2.2.1 x.2.2.2.2.2.1 x.2.2.2.2.2.2.1 x.2.2.2.2.2.2.2.1 x.2.2.2.2.2.2.2.2.1) fuN (a0, a1, x6, a13, a14, a15, a1, (a1.length : Int), (0 : Int), ())).bind fun y12 =>
 (match y12 with
 | .inl y12 =>
 some (.inr (.inl (y12.1, ())))
 | .inr y12 =>
 some (.inl (y12.1, y12.2.1, y12.2.2.1, y12.2.2.2.1, (IntKind.i64.wrap (y12.2.2.2.2.1 + 1)), ()))))))
 else
 some (.inr (.inr ()))
def pHas (p0 : Option (tG × tW × Bool × Bool × Option tQ × Option tQ × List Int × Int)) (p1 : List Int) : Option (Unit × Bool × Unit) :=
 ((p0).bind fun q1 =>
 ((spVals q1.2.2.2.2.1).bind fun r2 =>
 ((iterN (fun x => pHas_s4 x.1 x.2.1 x.2.2.1 x.2.2.2.1 x.2.2.2.2.1) fuN (p0, p1, r2.2.1, (r2.2.1.length : Int), (0 : Int), ())).bind fun y13 =>
 (match y13 with
 | .inl y13 =>
 some ((), y13.1, ())
 | .inr y13 =>
 some ((), false, ())))))
def pHas_c : Ctr := ⟨[.ro y7, .ro (.slice yi64)], [.val .bool], fun v => pHas v.1 v.2.1⟩
def pHas_h : zH := fun i => if i = 2 then zL [(0, y7), (1, .slice yi64), (13, .vec yi64), (14, yi64), (15, yi64)] [zR [(4, .bool)], zX 0 []] else if i = 5 then zL [(0, y7), (1, .slice yi64), (6, yi64), (13, .vec yi64), (14, yi64), (15, yi64), (19, .slice yi64), (20, yi64), (21, yi64)] [zR [(4, .bool)], zX 2 [(0, y7), (1, .slice yi64), (13, .vec yi64), (14, yi64), (15, yi64)]] else none
def pHas_g : zG := [(52, spVals_c)]
theorem pHas_eq : EqB pHas_c pHas_g pHas_h 37 Tryz.f50 [4] [] := fun v => by kernel_rfl
def pLong_s19 (a0 : tM) (a4 : Int) (a5 : Bool) (a7 : Int) (a63 : List Int) (a64 : Int) (a65 : Int) : Option ((tM × Int × Bool × Int × List Int × Int × Int × Unit) ⊕ (tM × Int × Bool × Int × Unit)) :=
 bif (decide (a65 < a64)) then
 ((lk a63 a65).bind fun _x20 =>
 ((lk a63 a65).bind fun x21 =>
 ((show Option (tM × Int × Bool × Int × Int × List Int × Int × Int × Bool × Unit) from
 ((lk a0.1 x21).bind fun x23 =>
 bif (x23.1 == 1) then
 ((lk a0.1 x21).bind fun x24 =>
 ((lk a0.2.1 a7).bind fun x25 =>
 ((sHas x24.2.1 x25).bind fun r26 =>
 some (a0, a4, a5, a7, x21, a63, a64, a65, r26.2.1, ()))))
 else
 some (a0, a4, a5, a7, x21, a63, a64, a65, false, ()))).bind fun y27 =>
 bif y27.2.2.2.2.2.2.2.2.1 then
 ((pReach y27.1 (IntKind.i64.wrap (y27.2.2.2.2.1 + 1)) (IntKind.i64.wrap (y27.2.2.2.1 + 1))).bind fun r28 =>
 some (.inl (r28.1, y27.2.1, y27.2.2.1, y27.2.2.2.1, y27.2.2.2.2.2.1, y27.2.2.2.2.2.2.1, (IntKind.i64.wrap (y27.2.2.2.2.2.2.2.1 + 1)), ())))
 else
 some (.inl (y27.1, y27.2.1, y27.2.2.1, y27.2.2.2.1, y27.2.2.2.2.2.1, y27.2.2.2.2.2.2.1, (IntKind.i64.wrap (y27.2.2.2.2.2.2.2.1 + 1)), ())))))
 else
 some (.inr (a0, a4, a5, a7, ()))
def pLong_s6 (a0 : tM) (a4 : Int) (a5 : Bool) (a7 : Int) : Option ((tM × Int × Bool × Int × Unit) ⊕ (tM × Int × Bool × Bool × Unit)) :=
 ((show Option ((tM × Int × Bool × Bool × Unit) ⊕ (tM × Int × Bool × Int × Unit)) from
 ((show Option (tM × Int × Bool × Int × Unit) from
 ((pHas (some (a0.1, a0.2.1, a0.2.2.1, a0.2.2.2.1, (some a0.2.2.2.2.1), (some a0.2.2.2.2.2.1), a0.2.2.2.2.2.2)) [(6 : Int)]).bind fun r9 =>
 bif r9.2.1 then
 some (a0, a7, true, a7, ())
 else
 some (a0, a4, a5, a7, ()))).bind fun y10 =>
 ((show Option ((tM × Int × Bool × Bool × Unit) ⊕ (tM × Int × Bool × Int × Unit)) from
 bif (y10.2.2.2.1 == (y10.1.2.1.length : Int)) then
 bif (!y10.1.2.2.2.1) then
 ((pHas (some (y10.1.1, y10.1.2.1, y10.1.2.2.1, y10.1.2.2.2.1, (some y10.1.2.2.2.2.1), (some y10.1.2.2.2.2.2.1), y10.1.2.2.2.2.2.2)) [(1 : Int), (5 : Int)]).bind fun r12 =>
 some (.inl (y10.1, y10.2.1, y10.2.2.1, r12.2.1, ())))
 else
 some (.inl (y10.1, y10.2.1, y10.2.2.1, false, ()))
 else
 some (.inr (y10.1, y10.2.1, y10.2.2.1, y10.2.2.2.1, ()))).bind fun y13 =>
 (match y13 with
 | .inl y13 =>
 some (.inl (y13.1, y13.2.1, y13.2.2.1, y13.2.2.2.1, ()))
 | .inr y13 =>
 ((show Option ((tM × Int × Bool × Bool × Unit) ⊕ (tM × Int × Bool × Int × Unit)) from
 ((spLen (some y13.1.2.2.2.2.1)).bind fun r15 =>
 bif (r15.2.1 == 0) then
 some (.inl (y13.1, y13.2.1, y13.2.2.1, false, ()))
 else
 some (.inr (y13.1, y13.2.1, y13.2.2.1, y13.2.2.2.1, ())))).bind fun y16 =>
 (match y16 with
 | .inl y16 =>
 some (.inl (y16.1, y16.2.1, y16.2.2.1, y16.2.2.2.1, ()))
 | .inr y16 =>
 ((spVals (some y16.1.2.2.2.2.1)).bind fun r17 =>
 ((iterN (fun x => pLong_s19 x.1 x.2.1 x.2.2.1 x.2.2.2.1 x.2.2.2.2.1 x.2.2.2.2.2.1 x.2.2.2.2.2.2.1) fuN (y16.1, y16.2.1, y16.2.2.1, y16.2.2.2.1, r17.2.1, (r17.2.1.length : Int), (0 : Int), ())).bind fun y29 =>
 ((pTurn y29.1).bind fun r30 =>
 some (.inr (r30.1, y29.2.1, y29.2.2.1, y29.2.2.2.1, ()))))))))))).bind fun y31 =>
 (match y31 with
 | .inl y31 =>
 some (.inr (y31.1, y31.2.1, y31.2.2.1, y31.2.2.2.1, ()))
 | .inr y31 =>
 some (.inl (y31.1, y31.2.1, y31.2.2.1, (IntKind.i64.wrap (y31.2.2.2.1 + 1)), ()))))
def pLong (p0 : tM) (p1 : Int) : Option (tM × Int × Bool × Bool × Unit) :=
 ((spClear p0.2.2.2.2.1).bind fun r1 =>
 ((spClear p0.2.2.2.2.2.1).bind fun r2 =>
 ((pReach (p0.1, p0.2.1, p0.2.2.1, p0.2.2.2.1, r1.1, r2.1, p0.2.2.2.2.2.2) (0 : Int) p1).bind fun r3 =>
 ((pTurn r3.1).bind fun r4 =>
 ((iterN (fun x => pLong_s6 x.1 x.2.1 x.2.2.1 x.2.2.2.1) fuN (r4.1, (0 : Int), false, p1, ())).bind fun y32 =>
 some (y32.1, y32.2.1, y32.2.2.1, y32.2.2.2.1, ()))))))
def pLong_c : Ctr := ⟨[.mu y1, .ro yi64], [.val yi64, .val .bool, .val .bool], fun v => pLong v.1 v.2.1⟩
def pLong_h : zH := fun i => if i = 7 then zL [(0, y1), (4, yi64), (5, .bool), (7, yi64)] [zR [(0, y1), (4, yi64), (5, .bool), (6, .bool)]] else if i = 1070006 then zC [zR [(0, y1), (4, yi64), (5, .bool), (6, .bool)], zN [(0, y1), (4, yi64), (5, .bool), (7, yi64)]] else if i = 14 then zL [(0, y1), (4, yi64), (5, .bool), (7, yi64), (63, .vec yi64), (64, yi64), (65, yi64)] [zX 2 [(0, y1), (4, yi64), (5, .bool), (7, yi64)]] else if i = 1160017 then zC [zN [(0, y1), (4, yi64), (5, .bool), (7, yi64), (9, yi64), (63, .vec yi64), (64, yi64), (65, yi64), (95, .bool)]] else if i = 1110013 then zC [zR [(0, y1), (4, yi64), (5, .bool), (6, .bool)], zN [(0, y1), (4, yi64), (5, .bool), (7, yi64)]] else if i = 1090011 then zC [zR [(0, y1), (4, yi64), (5, .bool), (6, .bool)], zN [(0, y1), (4, yi64), (5, .bool), (7, yi64)]] else if i = 1070009 then zC [zN [(0, y1), (4, yi64), (5, .bool), (7, yi64)]] else none
def pLong_g : zG := [(53, sHas_c), (51, spLen_c), (47, spClear_c), (52, spVals_c), (48, pReach_c), (49, pTurn_c), (50, pHas_c)]
theorem pLong_eq : EqB pLong_c pLong_g pLong_h 105 Tryz.f24 [4, 5, 6] [] := fun v => by kernel_rfl
def pLongest (p0 : tG) (p1 : tW) (p2 : Int) (p3 : Bool) (p4 : Bool) : Option (Unit × Int × Bool × Bool × Int × Unit) :=
 ((show Option ((Int × Bool × Bool × Int × Unit) ⊕ (tG × tW × Int × Bool × Bool × Unit)) from
 ((show Option (tG × tW × Int × Bool × Bool × Bool × Unit) from
 ((pMay p0).bind fun r3 =>
 bif (!r3.2.1) then
 some (p0, p1, p2, p3, p4, true, ())
 else
 bif (decide (p2 < 0)) then
 some (p0, p1, p2, p3, p4, true, ())
 else
 some (p0, p1, p2, p3, p4, (decide (p2 > (p1.length : Int))), ()))).bind fun y4 =>
 bif y4.2.2.2.2.2.1 then
 some (.inl ((0 : Int), false, false, (1 : Int), ()))
 else
 some (.inr (y4.1, y4.2.1, y4.2.2.1, y4.2.2.2.1, y4.2.2.2.2.1, ())))).bind fun y5 =>
 (match y5 with
 | .inl y5 =>
 some ((), y5.1, y5.2.1, y5.2.2.1, y5.2.2.2.1, ())
 | .inr y5 =>
 ((pMade y5.1 y5.2.1 y5.2.2.2.1 y5.2.2.2.2.1).bind fun r6 =>
 ((pLong r6.2.1 y5.2.2.1).bind fun r7 =>
 some ((), r7.2.1, r7.2.2.1, r7.2.2.2.1, (0 : Int), ())))))
def pLongest_c : Ctr := ⟨[.ro s0, .ro s1, .ro yi64, .ro .bool, .ro .bool], [.val yi64, .val .bool, .val .bool, .val yi64], fun v => pLongest v.1 v.2.1 v.2.2.1 v.2.2.2.1 v.2.2.2.2.1⟩
def pLongest_h : zH := fun i => if i = 1010003 then zC [zR [(10, yi64), (11, .bool), (12, .bool), (13, yi64)], zN [(0, s0), (1, s1), (2, yi64), (3, .bool), (4, .bool)]] else if i = 1010002 then zC [zN [(0, s0), (1, s1), (2, yi64), (3, .bool), (4, .bool), (26, .bool)]] else none
def pLongest_g : zG := [(22, pMay_c), (23, pMade_c), (24, pLong_c)]
theorem pLongest_eq : EqB pLongest_c pLongest_g pLongest_h 41 Tryz.f10 [10, 11, 12, 13] [] := fun v => by kernel_rfl
def pSteps (p0 : tG) (p1 : tW) (p2 : Int) (p3 : Bool) (p4 : Bool) : Option (Unit × Int × Unit) :=
 ((show Option ((Int × Unit) ⊕ (tG × tW × Int × Bool × Bool × Unit)) from
 ((pMay p0).bind fun r2 =>
 bif (!r2.2.1) then
 some (.inl ((0 : Int), ()))
 else
 bif (decide (p2 < 0)) then
 some (.inl ((0 : Int), ()))
 else
 bif (decide (p2 > (p1.length : Int))) then
 some (.inl ((0 : Int), ()))
 else
 some (.inr (p0, p1, p2, p3, p4, ())))).bind fun y3 =>
 (match y3 with
 | .inl y3 =>
 some ((), y3.1, ())
 | .inr y3 =>
 ((pMade y3.1 y3.2.1 y3.2.2.2.1 y3.2.2.2.2.1).bind fun r4 =>
 ((pLong r4.2.1 y3.2.2.1).bind fun r5 =>
 some ((), r5.1.2.2.2.2.2.2.2, ())))))
def pSteps_c : Ctr := ⟨[.ro s0, .ro s1, .ro yi64, .ro .bool, .ro .bool], [.val yi64], fun v => pSteps v.1 v.2.1 v.2.2.1 v.2.2.2.1 v.2.2.2.2.1⟩
def pSteps_h : zH := fun i => if i = 1010003 then zC [zR [(10, yi64)], zN [(0, s0), (1, s1), (2, yi64), (3, .bool), (4, .bool)]] else none
def pSteps_g : zG := [(22, pMay_c), (23, pMade_c), (24, pLong_c)]
theorem pSteps_eq : EqB pSteps_c pSteps_g pSteps_h 37 Tryz.f11 [10] [] := fun v => by kernel_rfl
def pAll_s7 (a1 : tW) (a6 : tM) (a7 : List tK) (a8 : Int) : Option ((tW × tM × List tK × Int × Unit) ⊕ (List tK × Unit)) :=
 ((show Option ((tW × tM × List tK × Int × Unit) ⊕ (List tK × Unit)) from
 bif (decide (a8 ≤ (a1.length : Int))) then
 some (.inl (a1, a6, a7, a8, ()))
 else
 some (.inr (a7, ()))).bind fun y9 =>
 (match y9 with
 | .inl y9 =>
 ((pLong y9.2.1 y9.2.2.2.1).bind fun r10 =>
 ((show Option (tW × tM × List tK × Int × Int × Unit) from
 bif r10.2.2.1 then
 bif (roomOk (y9.2.2.1.length + [(y9.2.2.2.1, r10.2.1, (0 : Int), (0 : Int))].length) 32) then
 let l12 := (y9.2.2.1 ++ [(y9.2.2.2.1, r10.2.1, (0 : Int), (0 : Int))])
 some (y9.1, r10.1, l12, y9.2.2.2.1, r10.2.1, ())
 else none
 else
 some (y9.1, r10.1, y9.2.2.1, y9.2.2.2.1, r10.2.1, ())).bind fun y13 =>
 let v14 := (if y13.2.2.2.2.1 > (IntKind.i64.wrap (y13.2.2.2.1 + 1)) then y13.2.2.2.2.1 else (IntKind.i64.wrap (y13.2.2.2.1 + 1)))
 some (.inl (y13.1, y13.2.1, y13.2.2.1, v14, ()))))
 | .inr y9 =>
 some (.inr (y9.1, ()))))
def pAll (p0 : tG) (p1 : tW) : Option (Unit × List tK × Int × Unit) :=
 ((show Option ((Unit × Int × Unit) ⊕ (tG × tW × Unit)) from
 ((pMay p0).bind fun r2 =>
 bif (!r2.2.1) then
 some (.inl ((), (1 : Int), ()))
 else
 some (.inr (p0, p1, ())))).bind fun y3 =>
 (match y3 with
 | .inl y3 =>
 some ((), ([] : List tK), y3.2.1, ())
 | .inr y3 =>
 ((pMade y3.1 y3.2.1 true true).bind fun r4 =>
 ((show Option (List tK × Unit) from
 ((iterN (fun x => pAll_s7 x.1 x.2.1 x.2.2.1 x.2.2.2.1) fuN (y3.2.1, r4.2.1, ([] : List tK), (0 : Int), ())).bind fun y15 =>
 some (y15.1, ()))).bind fun y16 =>
 some ((), y16.1, (0 : Int), ())))))
def pAll_c : Ctr := ⟨[.ro s0, .ro s1], [.own (.vec y6), .val yi64], fun v => pAll v.1 v.2.1⟩
def pAll_h : zH := fun i => if i = 1050011 then zC [zN [(7, .vec y6)]] else if i = 6 then zL [(1, s1), (6, y1), (7, .vec y6), (8, yi64)] [zX 0 [(7, .vec y6)]] else if i = 1080010 then zC [zN [(1, s1), (6, y1), (7, .vec y6), (8, yi64), (9, yi64)]] else if i = 1060007 then zC [zN [(1, s1), (6, y1), (7, .vec y6), (8, yi64)], zX 0 [(7, .vec y6)]] else if i = 1010003 then zC [zR [(4, .nils), (5, yi64)], zN [(0, s0), (1, s1)]] else none
def pAll_g : zG := [(22, pMay_c), (23, pMade_c), (24, pLong_c)]
theorem pAll_eq : EqB pAll_c pAll_g pAll_h 41 Tryz.f14 [4, 5] [] := fun v => by kernel_rfl
def pWhole (p0 : tG) (p1 : tW) : Option (Unit × Bool × Int × Unit) :=
 ((pLongest p0 p1 (0 : Int) true true).bind fun r1 =>
 bif r1.2.2.1 then
 some ((), (r1.2.1 == (p1.length : Int)), r1.2.2.2.2.1, ())
 else
 some ((), false, r1.2.2.2.2.1, ()))
def pWhole_c : Ctr := ⟨[.ro s0, .ro s1], [.val .bool, .val yi64], fun v => pWhole v.1 v.2.1⟩
def pWhole_g : zG := [(10, pLongest_c)]
theorem pWhole_eq : EqB pWhole_c pWhole_g h0 26 Tryz.f15 [4, 5] [] := fun v => by kernel_rfl
def may8_s5 (a0 : tG) (a3 : Int) (a4 : Int) : Option ((tG × Int × Int × Unit) ⊕ ((Bool × Unit) ⊕ Unit)) :=
 ((show Option ((tG × Int × Int × Unit) ⊕ Unit) from
 bif (decide (a4 < a3)) then
 some (.inl (a0, a3, a4, ()))
 else
 some (.inr ())).bind fun y7 =>
 (match y7 with
 | .inl y7 =>
 ((show Option ((Bool × Unit) ⊕ (tG × Int × Int × Unit)) from
 ((lk y7.1 y7.2.2.1).bind fun x9 =>
 ((same6 x9.2.1 (([] : tC), ([] : tC), ([] : tW))).bind fun r10 =>
 bif (x9.1 == 1) then
 ((norm6 x9.2.1).bind fun r11 =>
 ((same6 r11.2.1 x9.2.1).bind fun r12 =>
 bif (!r12.2.1) then
 some (.inl (false, ()))
 else
 bif (x9.2.2.1 != 0) then
 some (.inl (false, ()))
 else
 bif (x9.2.2.2 != 0) then
 some (.inl (false, ()))
 else
 some (.inr (y7.1, y7.2.1, y7.2.2.1, ()))))
 else
 bif (x9.1 == 2) then
 bif (!r10.2.1) then
 some (.inl (false, ()))
 else
 bif (decide (x9.2.2.1 < 0)) then
 some (.inl (false, ()))
 else
 bif (decide (x9.2.2.1 ≥ y7.2.1)) then
 some (.inl (false, ()))
 else
 bif (decide (x9.2.2.2 < 0)) then
 some (.inl (false, ()))
 else
 bif (decide (x9.2.2.2 ≥ y7.2.1)) then
 some (.inl (false, ()))
 else
 some (.inr (y7.1, y7.2.1, y7.2.2.1, ()))
 else
 bif (x9.1 == 3) then
 bif (!r10.2.1) then
 some (.inl (false, ()))
 else
 bif (decide (x9.2.2.1 < 0)) then
 some (.inl (false, ()))
 else
 bif (decide (x9.2.2.1 ≥ y7.2.1)) then
 some (.inl (false, ()))
 else
 bif (x9.2.2.2 != 0) then
 some (.inl (false, ()))
 else
 some (.inr (y7.1, y7.2.1, y7.2.2.1, ()))
 else
 ((show Option (tG × Int × Int × tN × Bool × Bool × Unit) from
 bif (x9.1 == 4) then
 some (y7.1, y7.2.1, y7.2.2.1, x9, (!r10.2.1), (x9.1 == 4), ())
 else
 bif (x9.1 == 5) then
 some (y7.1, y7.2.1, y7.2.2.1, x9, (!r10.2.1), (x9.1 == 5), ())
 else
 some (y7.1, y7.2.1, y7.2.2.1, x9, (!r10.2.1), (x9.1 == 6), ())).bind fun y14 =>
 bif y14.2.2.2.2.2.1 then
 bif y14.2.2.2.2.1 then
 some (.inl (false, ()))
 else
 bif (y14.2.2.2.1.2.2.1 != 0) then
 some (.inl (false, ()))
 else
 bif (y14.2.2.2.1.2.2.2 != 0) then
 some (.inl (false, ()))
 else
 some (.inr (y14.1, y14.2.1, y14.2.2.1, ()))
 else
 some (.inl (false, ())))))).bind fun y15 =>
 (match y15 with
 | .inl y15 =>
 some (.inr (.inl (y15.1, ())))
 | .inr y15 =>
 some (.inl (y15.1, y15.2.1, (IntKind.i64.wrap (y15.2.2.1 + 1)), ()))))
 | .inr y7 =>
 some (.inr (.inr ()))))
def may8 (p0 : tG) : Option (Unit × Bool × Unit) :=
 ((show Option ((Bool × Unit) ⊕ (tG × Int × Unit)) from
 bif ((p0.length : Int) == 0) then
 some (.inl (false, ()))
 else
 bif (decide ((p0.length : Int) > 4096)) then
 some (.inl (false, ()))
 else
 ((lk p0 (IntKind.i64.wrap ((p0.length : Int) - 1))).bind fun x2 =>
 bif (x2.1 != 6) then
 some (.inl (false, ()))
 else
 some (.inr (p0, (p0.length : Int), ())))).bind fun y3 =>
 (match y3 with
 | .inl y3 =>
 some ((), y3.1, ())
 | .inr y3 =>
 ((iterN (fun x => may8_s5 x.1 x.2.1 x.2.2.1) fuN (y3.1, y3.2.1, (0 : Int), ())).bind fun y16 =>
 (match y16 with
 | .inl y16 =>
 some ((), y16.1, ())
 | .inr y16 =>
 some ((), true, ())))))
def may8_c : Ctr := ⟨[.ro s0], [.val .bool], fun v => may8 v.1⟩
def may8_h : zH := fun i => if i = 5 then zL [(0, s0), (3, yi64), (4, yi64)] [zR [(2, .bool)], zX 0 []] else if i = 1070006 then zC [zR [(2, .bool)], zN [(0, s0), (3, yi64), (4, yi64)]] else if i = 1200023 then zC [zN [(0, s0), (3, yi64), (4, yi64), (5, .bx y0), (6, .bool), (103, .bool)]] else if i = 1050007 then zC [zN [(0, s0), (3, yi64), (4, yi64)], zX 0 []] else if i = 1020004 then zC [zR [(2, .bool)], zN [(0, s0), (3, yi64)]] else none
def may8_g : zG := [(25, same6_c), (26, norm6_c)]
theorem may8_eq : EqB may8_c may8_g may8_h 118 Tryz.f12 [2] [] := fun v => by kernel_rfl
def mark8_s3 (a0 : tG) (a1 : List Bool) (a2 : Bool) (a3 : Bool) (a9 : List Bool) (a10 : List Int) (a11 : Int) : Option ((tG × List Bool × Bool × Bool × List Bool × List Int × Int × Unit) ⊕ (tG × Bool × Bool × List Bool × List Int × Unit)) :=
 ((show Option ((tG × List Bool × Bool × Bool × List Bool × List Int × Int × Unit) ⊕ (tG × Bool × Bool × List Bool × List Int × Unit)) from
 bif (decide (a11 < (a0.length : Int))) then
 some (.inl (a0, a1, a2, a3, a9, a10, a11, ()))
 else
 some (.inr (a0, a2, a3, a9, a10, ()))).bind fun y5 =>
 (match y5 with
 | .inl y5 =>
 ((show Option (tG × List Bool × Bool × Bool × List Bool × List Int × Int × Unit) from
 ((lk y5.2.1 y5.2.2.2.2.2.2.1).bind fun x7 =>
 ((lk y5.2.2.2.2.1 y5.2.2.2.2.2.2.1).bind fun _x8 =>
 ((lk y5.2.2.2.2.1 y5.2.2.2.2.2.2.1).bind fun x9 =>
 ((lk y5.2.1 y5.2.2.2.2.2.2.1).bind fun x10 =>
 bif x10 then
 bif (roomOk (y5.2.2.2.2.2.1.length + [y5.2.2.2.2.2.2.1].length) 8) then
 some (y5.1, y5.2.1, y5.2.2.1, y5.2.2.2.1, (y5.2.2.2.2.1.set y5.2.2.2.2.2.2.1.toNat x7), (y5.2.2.2.2.2.1 ++ [y5.2.2.2.2.2.2.1]), y5.2.2.2.2.2.2.1, ())
 else none
 else
 some (y5.1, y5.2.1, y5.2.2.1, y5.2.2.2.1, (y5.2.2.2.2.1.set y5.2.2.2.2.2.2.1.toNat x7), y5.2.2.2.2.2.1, y5.2.2.2.2.2.2.1, ())))))).bind fun y11 =>
 some (.inl (y11.1, y11.2.1, y11.2.2.1, y11.2.2.2.1, y11.2.2.2.2.1, y11.2.2.2.2.2.1, (IntKind.i64.wrap (y11.2.2.2.2.2.2.1 + 1)), ())))
 | .inr y5 =>
 some (.inr (y5.1, y5.2.1, y5.2.2.1, y5.2.2.2.1, y5.2.2.2.2.1, ()))))
def mark8_s29 (a0 : tG) (a2 : Bool) (a3 : Bool) (a9 : List Bool) (a10 : List Int) (a13 : List Int) (a14 : Int) : Option ((tG × Bool × Bool × List Bool × List Int × List Int × Int × Unit) ⊕ (tG × Bool × Bool × List Bool × List Int × Unit)) :=
 ((show Option ((tG × Bool × Bool × List Bool × List Int × List Int × Int × Unit) ⊕ (tG × Bool × Bool × List Bool × List Int × Unit)) from
 bif (decide (a14 < (a13.length : Int))) then
 some (.inl (a0, a2, a3, a9, a10, a13, a14, ()))
 else
 some (.inr (a0, a2, a3, a9, a10, ()))).bind fun y31 =>
 (match y31 with
 | .inl y31 =>
 ((show Option (tG × Bool × Bool × List Bool × List Int × List Int × Int × Unit) from
 ((lk y31.2.2.2.2.2.1 y31.2.2.2.2.2.2.1).bind fun _x33 =>
 ((lk y31.2.2.2.2.2.1 y31.2.2.2.2.2.2.1).bind fun x34 =>
 ((lk y31.2.2.2.1 x34).bind fun _x35 =>
 ((lk y31.2.2.2.1 x34).bind fun x36 =>
 bif (!x36) then
 ((lk y31.2.2.2.2.2.1 y31.2.2.2.2.2.2.1).bind fun _x37 =>
 ((lk y31.2.2.2.2.2.1 y31.2.2.2.2.2.2.1).bind fun x38 =>
 ((lk y31.2.2.2.1 x38).bind fun _x39 =>
 ((lk y31.2.2.2.1 x38).bind fun x40 =>
 ((lk y31.2.2.2.2.2.1 y31.2.2.2.2.2.2.1).bind fun _x41 =>
 ((lk y31.2.2.2.2.2.1 y31.2.2.2.2.2.2.1).bind fun x42 =>
 bif (roomOk (y31.2.2.2.2.1.length + [x42].length) 8) then
 some (y31.1, y31.2.1, y31.2.2.1, (y31.2.2.2.1.set x38.toNat true), (y31.2.2.2.2.1 ++ [x42]), y31.2.2.2.2.2.1, y31.2.2.2.2.2.2.1, ())
 else none))))))
 else
 some (y31.1, y31.2.1, y31.2.2.1, y31.2.2.2.1, y31.2.2.2.2.1, y31.2.2.2.2.2.1, y31.2.2.2.2.2.2.1, ())))))).bind fun y43 =>
 some (.inl (y43.1, y43.2.1, y43.2.2.1, y43.2.2.2.1, y43.2.2.2.2.1, y43.2.2.2.2.2.1, (IntKind.i64.wrap (y43.2.2.2.2.2.2.1 + 1)), ())))
 | .inr y31 =>
 some (.inr (y31.1, y31.2.1, y31.2.2.1, y31.2.2.2.1, y31.2.2.2.2.1, ()))))
def mark8_s15 (a0 : tG) (a2 : Bool) (a3 : Bool) (a9 : List Bool) (a10 : List Int) : Option ((tG × Bool × Bool × List Bool × List Int × Unit) ⊕ (List Bool × Unit)) :=
 ((show Option ((tG × Bool × Bool × List Bool × List Int × Unit) ⊕ (List Bool × Unit)) from
 bif (decide ((a10.length : Int) > 0)) then
 some (.inl (a0, a2, a3, a9, a10, ()))
 else
 some (.inr (a9, ()))).bind fun y17 =>
 (match y17 with
 | .inl y17 =>
 let v18 := (IntKind.i64.wrap ((y17.2.2.2.2.1.length : Int) - 1))
 ((lk y17.2.2.2.2.1 v18).bind fun _x19 =>
 ((lk y17.2.2.2.2.1 v18).bind fun x20 =>
 let v21 := (IntKind.i64.wrap ((y17.2.2.2.2.1.length : Int) - 1))
 bif (inB (0 : Int) v21 y17.2.2.2.2.1.length) then
 ((show Option (tG × Bool × Bool × List Bool × List Int × List Int × Unit) from
 ((lk y17.1 x20).bind fun x23 =>
 bif (x23.1 == 2) then
 ((lk y17.1 x20).bind fun x24 =>
 ((lk y17.1 x20).bind fun x25 =>
 some (y17.1, y17.2.1, y17.2.2.1, y17.2.2.2.1, (((y17.2.2.2.2.1).drop (0 : Int).toNat).take (v21 - 0).toNat), [x24.2.2.1, x25.2.2.2], ())))
 else
 bif (x23.1 == 3) then
 ((lk y17.1 x20).bind fun x26 =>
 some (y17.1, y17.2.1, y17.2.2.1, y17.2.2.2.1, (((y17.2.2.2.2.1).drop (0 : Int).toNat).take (v21 - 0).toNat), [x26.2.2.1], ()))
 else
 bif (x23.1 == 4) then
 bif y17.2.1 then
 some (y17.1, y17.2.1, y17.2.2.1, y17.2.2.2.1, (((y17.2.2.2.2.1).drop (0 : Int).toNat).take (v21 - 0).toNat), [(IntKind.i64.wrap (x20 + 1))], ())
 else
 some (y17.1, y17.2.1, y17.2.2.1, y17.2.2.2.1, (((y17.2.2.2.2.1).drop (0 : Int).toNat).take (v21 - 0).toNat), ([] : List Int), ())
 else
 bif (x23.1 == 5) then
 bif y17.2.2.1 then
 some (y17.1, y17.2.1, y17.2.2.1, y17.2.2.2.1, (((y17.2.2.2.2.1).drop (0 : Int).toNat).take (v21 - 0).toNat), [(IntKind.i64.wrap (x20 + 1))], ())
 else
 some (y17.1, y17.2.1, y17.2.2.1, y17.2.2.2.1, (((y17.2.2.2.2.1).drop (0 : Int).toNat).take (v21 - 0).toNat), ([] : List Int), ())
 else
 some (y17.1, y17.2.1, y17.2.2.1, y17.2.2.2.1, (((y17.2.2.2.2.1).drop (0 : Int).toNat).take (v21 - 0).toNat), ([] : List Int), ()))).bind fun y27 =>
 ((iterN (fun x => mark8_s29 x.1 x.2.1 x.2.2.1 x.2.2.2.1 x.2.2.2.2.1 x.2.2.2.2.2.1 x.2.2.2.2.2.2.1) fuN (y27.1, y27.2.1, y27.2.2.1, y27.2.2.2.1, y27.2.2.2.2.1, y27.2.2.2.2.2.1, (0 : Int), ())).bind fun y44 =>
 some (.inl (y44.1, y44.2.1, y44.2.2.1, y44.2.2.2.1, y44.2.2.2.2.1, ()))))
 else none))
 | .inr y17 =>
 some (.inr (y17.1, ()))))
def mark8 (p0 : tG) (p1 : List Bool) (p2 : Bool) (p3 : Bool) : Option (Unit × List Bool × Unit) :=
 bif (mkOk 1 (p0.length : Int) (p0.length : Int)) then
 ((show Option (tG × Bool × Bool × List Bool × List Int × Unit) from
 ((iterN (fun x => mark8_s3 x.1 x.2.1 x.2.2.1 x.2.2.2.1 x.2.2.2.2.1 x.2.2.2.2.2.1 x.2.2.2.2.2.2.1) fuN (p0, p1, p2, p3, (List.replicate (Int.toNat (p0.length : Int)) false), ([] : List Int), (0 : Int), ())).bind fun y12 =>
 some (y12.1, y12.2.1, y12.2.2.1, y12.2.2.2.1, y12.2.2.2.2.1, ()))).bind fun y13 =>
 ((iterN (fun x => mark8_s15 x.1 x.2.1 x.2.2.1 x.2.2.2.1 x.2.2.2.2.1) fuN (y13.1, y13.2.1, y13.2.2.1, y13.2.2.2.1, y13.2.2.2.2.1, ())).bind fun y45 =>
 some ((), y45.1, ())))
 else none
def mark8_c : Ctr := ⟨[.ro s0, .ro (.slice .bool), .ro .bool, .ro .bool], [.own (.vec .bool)], fun v => mark8 v.1 v.2.1 v.2.2.1 v.2.2.2.1⟩
def mark8_h : zH := fun i => if i = 9 then zL [(0, s0), (2, .bool), (3, .bool), (9, .vec .bool), (10, .vec yi64)] [zX 2 [(9, .vec .bool)]] else if i = 25 then zL [(0, s0), (2, .bool), (3, .bool), (9, .vec .bool), (10, .vec yi64), (13, .vec yi64), (14, yi64)] [zX 5 [(0, s0), (2, .bool), (3, .bool), (9, .vec .bool), (10, .vec yi64)]] else if i = 1270026 then zC [zN [(0, s0), (2, .bool), (3, .bool), (9, .vec .bool), (10, .vec yi64), (13, .vec yi64), (14, yi64)]] else if i = 1250027 then zC [zN [(0, s0), (2, .bool), (3, .bool), (9, .vec .bool), (10, .vec yi64), (13, .vec yi64), (14, yi64)], zX 5 [(0, s0), (2, .bool), (3, .bool), (9, .vec .bool), (10, .vec yi64)]] else if i = 1130024 then zC [zN [(0, s0), (2, .bool), (3, .bool), (9, .vec .bool), (10, .vec yi64), (13, .vec yi64)]] else if i = 1090010 then zC [zN [(0, s0), (2, .bool), (3, .bool), (9, .vec .bool), (10, .vec yi64)], zX 2 [(9, .vec .bool)]] else if i = 1030009 then zC [zN [(0, s0), (2, .bool), (3, .bool), (9, .vec .bool), (10, .vec yi64)]] else if i = 4 then zL [(0, s0), (1, .slice .bool), (2, .bool), (3, .bool), (9, .vec .bool), (10, .vec yi64), (11, yi64)] [zX 0 [(0, s0), (2, .bool), (3, .bool), (9, .vec .bool), (10, .vec yi64)]] else if i = 1060005 then zC [zN [(0, s0), (1, .slice .bool), (2, .bool), (3, .bool), (9, .vec .bool), (10, .vec yi64), (11, yi64)]] else if i = 1040006 then zC [zN [(0, s0), (1, .slice .bool), (2, .bool), (3, .bool), (9, .vec .bool), (10, .vec yi64), (11, yi64)], zX 0 [(0, s0), (2, .bool), (3, .bool), (9, .vec .bool), (10, .vec yi64)]] else none
theorem mark8_eq : EqB mark8_c [] mark8_h 119 Tryz.f58 [8] [] := fun v => by kernel_rfl
def begin10 (p0 : tG) (p1 : Int) (p2 : Int) (p3 : Bool) (p4 : Bool) : Option (Unit × List Bool × Unit) :=
 bif (mkOk 1 (p0.length : Int) (p0.length : Int)) then
 ((lk (List.replicate (Int.toNat (p0.length : Int)) false) (0 : Int)).bind fun _x1 =>
 ((lk (List.replicate (Int.toNat (p0.length : Int)) false) (0 : Int)).bind fun x2 =>
 let l3 := ((List.replicate (Int.toNat (p0.length : Int)) false).set (0 : Int).toNat true)
 bif p3 then
 bif p4 then
 ((mark8 p0 l3 (p2 == 0) (p2 == p1)).bind fun r4 =>
 some ((), r4.2.1, ()))
 else
 ((mark8 p0 l3 (p2 == 0) false).bind fun r5 =>
 some ((), r5.2.1, ()))
 else
 bif p4 then
 ((mark8 p0 l3 false (p2 == p1)).bind fun r6 =>
 some ((), r6.2.1, ()))
 else
 ((mark8 p0 l3 false false).bind fun r7 =>
 some ((), r7.2.1, ()))))
 else none
def begin10_c : Ctr := ⟨[.ro s0, .ro yi64, .ro yi64, .ro .bool, .ro .bool], [.own (.vec .bool)], fun v => begin10 v.1 v.2.1 v.2.2.1 v.2.2.2.1 v.2.2.2.2.1⟩
def begin10_g : zG := [(58, mark8_c)]
theorem begin10_eq : EqB begin10_c begin10_g h0 31 Tryz.f27 [10] [] := fun v => by kernel_rfl
def over10_s3 (a0 : tG) (a1 : List Bool) (a2 : tW) (a3 : Int) (a4 : Bool) (a11 : List Bool) (a12 : Int) : Option ((tG × List Bool × tW × Int × Bool × List Bool × Int × Unit) ⊕ (tG × tW × Int × Bool × List Bool × Unit)) :=
 ((show Option ((tG × List Bool × tW × Int × Bool × List Bool × Int × Unit) ⊕ (tG × tW × Int × Bool × List Bool × Unit)) from
 bif (decide (a12 < (a0.length : Int))) then
 some (.inl (a0, a1, a2, a3, a4, a11, a12, ()))
 else
 some (.inr (a0, a2, a3, a4, a11, ()))).bind fun y5 =>
 (match y5 with
 | .inl y5 =>
 ((show Option (tG × List Bool × tW × Int × Bool × List Bool × Int × Unit) from
 ((show Option (tG × List Bool × tW × Int × Bool × List Bool × Int × Bool × Unit) from
 ((lk y5.2.1 y5.2.2.2.2.2.2.1).bind fun x8 =>
 bif x8 then
 ((lk y5.1 y5.2.2.2.2.2.2.1).bind fun x9 =>
 bif (x9.1 == 1) then
 ((lk y5.1 y5.2.2.2.2.2.2.1).bind fun x10 =>
 ((lk y5.2.2.1 y5.2.2.2.1).bind fun x11 =>
 ((has6 x10.2.1 x11).bind fun r12 =>
 some (y5.1, y5.2.1, y5.2.2.1, y5.2.2.2.1, y5.2.2.2.2.1, y5.2.2.2.2.2.1, y5.2.2.2.2.2.2.1, r12.2.1, ()))))
 else
 some (y5.1, y5.2.1, y5.2.2.1, y5.2.2.2.1, y5.2.2.2.2.1, y5.2.2.2.2.2.1, y5.2.2.2.2.2.2.1, false, ()))
 else
 some (y5.1, y5.2.1, y5.2.2.1, y5.2.2.2.1, y5.2.2.2.2.1, y5.2.2.2.2.2.1, y5.2.2.2.2.2.2.1, false, ()))).bind fun y13 =>
 bif y13.2.2.2.2.2.2.2.1 then
 ((lk y13.2.2.2.2.2.1 (IntKind.i64.wrap (y13.2.2.2.2.2.2.1 + 1))).bind fun _x14 =>
 ((lk y13.2.2.2.2.2.1 (IntKind.i64.wrap (y13.2.2.2.2.2.2.1 + 1))).bind fun x15 =>
 let l16 := (y13.2.2.2.2.2.1.set (IntKind.i64.wrap (y13.2.2.2.2.2.2.1 + 1)).toNat true)
 some (y13.1, y13.2.1, y13.2.2.1, y13.2.2.2.1, y13.2.2.2.2.1, l16, y13.2.2.2.2.2.2.1, ())))
 else
 some (y13.1, y13.2.1, y13.2.2.1, y13.2.2.2.1, y13.2.2.2.2.1, y13.2.2.2.2.2.1, y13.2.2.2.2.2.2.1, ()))).bind fun y17 =>
 some (.inl (y17.1, y17.2.1, y17.2.2.1, y17.2.2.2.1, y17.2.2.2.2.1, y17.2.2.2.2.2.1, (IntKind.i64.wrap (y17.2.2.2.2.2.2.1 + 1)), ())))
 | .inr y5 =>
 some (.inr (y5.1, y5.2.1, y5.2.2.1, y5.2.2.2.1, y5.2.2.2.2.1, ()))))
def over10 (p0 : tG) (p1 : List Bool) (p2 : tW) (p3 : Int) (p4 : Bool) : Option (Unit × List Bool × Unit) :=
 bif (mkOk 1 (p0.length : Int) (p0.length : Int)) then
 ((show Option (tG × tW × Int × Bool × List Bool × Unit) from
 ((iterN (fun x => over10_s3 x.1 x.2.1 x.2.2.1 x.2.2.2.1 x.2.2.2.2.1 x.2.2.2.2.2.1 x.2.2.2.2.2.2.1) fuN (p0, p1, p2, p3, p4, (List.replicate (Int.toNat (p0.length : Int)) false), (0 : Int), ())).bind fun y18 =>
 some (y18.1, y18.2.1, y18.2.2.1, y18.2.2.2.1, y18.2.2.2.2.1, ()))).bind fun y19 =>
 bif y19.2.2.2.1 then
 let v20 := ((IntKind.i64.wrap (y19.2.2.1 + 1)) == (y19.2.1.length : Int))
 ((mark8 y19.1 y19.2.2.2.2.1 false v20).bind fun r21 =>
 some ((), r21.2.1, ()))
 else
 ((mark8 y19.1 y19.2.2.2.2.1 false false).bind fun r22 =>
 some ((), r22.2.1, ())))
 else none
def over10_c : Ctr := ⟨[.ro s0, .ro (.slice .bool), .ro s1, .ro yi64, .ro .bool], [.own (.vec .bool)], fun v => over10 v.1 v.2.1 v.2.2.1 v.2.2.2.1 v.2.2.2.2.1⟩
def over10_h : zH := fun i => if i = 1020007 then zC [zN [(0, s0), (2, s1), (3, yi64), (4, .bool), (11, .vec .bool)]] else if i = 3 then zL [(0, s0), (1, .slice .bool), (2, s1), (3, yi64), (4, .bool), (11, .vec .bool), (12, yi64)] [zX 0 [(0, s0), (2, s1), (3, yi64), (4, .bool), (11, .vec .bool)]] else if i = 1050004 then zC [zN [(0, s0), (1, .slice .bool), (2, s1), (3, yi64), (4, .bool), (11, .vec .bool), (12, yi64)]] else if i = 1050006 then zC [zN [(0, s0), (1, .slice .bool), (2, s1), (3, yi64), (4, .bool), (11, .vec .bool), (12, yi64), (45, .bool)]] else if i = 1030005 then zC [zN [(0, s0), (1, .slice .bool), (2, s1), (3, yi64), (4, .bool), (11, .vec .bool), (12, yi64)], zX 0 [(0, s0), (2, s1), (3, yi64), (4, .bool), (11, .vec .bool)]] else none
def over10_g : zG := [(59, has6_c), (58, mark8_c)]
theorem over10_eq : EqB over10_c over10_g over10_h 61 Tryz.f30 [10] [] := fun v => by kernel_rfl
def any10_s2 (a0 : tG) (a1 : List Bool) (a2 : Int) (a3 : Int) (a9 : Int) : Option ((tG × List Bool × Int × Int × Int × Unit) ⊕ ((Bool × Unit) ⊕ Unit)) :=
 ((show Option ((tG × List Bool × Int × Int × Int × Unit) ⊕ Unit) from
 bif (decide (a9 < (a0.length : Int))) then
 some (.inl (a0, a1, a2, a3, a9, ()))
 else
 some (.inr ())).bind fun y4 =>
 (match y4 with
 | .inl y4 =>
 ((show Option ((Bool × Unit) ⊕ (tG × List Bool × Int × Int × Int × Unit)) from
 ((lk y4.2.1 y4.2.2.2.2.1).bind fun x6 =>
 bif x6 then
 ((lk y4.1 y4.2.2.2.2.1).bind fun x7 =>
 bif (x7.1 == y4.2.2.1) then
 some (.inl (true, ()))
 else
 ((lk y4.1 y4.2.2.2.2.1).bind fun x8 =>
 bif (x8.1 == y4.2.2.2.1) then
 some (.inl (true, ()))
 else
 some (.inr (y4.1, y4.2.1, y4.2.2.1, y4.2.2.2.1, y4.2.2.2.2.1, ()))))
 else
 some (.inr (y4.1, y4.2.1, y4.2.2.1, y4.2.2.2.1, y4.2.2.2.2.1, ())))).bind fun y9 =>
 (match y9 with
 | .inl y9 =>
 some (.inr (.inl (y9.1, ())))
 | .inr y9 =>
 some (.inl (y9.1, y9.2.1, y9.2.2.1, y9.2.2.2.1, (IntKind.i64.wrap (y9.2.2.2.2.1 + 1)), ()))))
 | .inr y4 =>
 some (.inr (.inr ()))))
def any10 (p0 : tG) (p1 : List Bool) (p2 : Int) (p3 : Int) : Option (Unit × Bool × Unit) :=
 ((iterN (fun x => any10_s2 x.1 x.2.1 x.2.2.1 x.2.2.2.1 x.2.2.2.2.1) fuN (p0, p1, p2, p3, (0 : Int), ())).bind fun y10 =>
 (match y10 with
 | .inl y10 =>
 some ((), y10.1, ())
 | .inr y10 =>
 some ((), false, ())))
def any10_c : Ctr := ⟨[.ro s0, .ro (.slice .bool), .ro yi64, .ro yi64], [.val .bool], fun v => any10 v.1 v.2.1 v.2.2.1 v.2.2.2.1⟩
def any10_h : zH := fun i => if i = 2 then zL [(0, s0), (1, .slice .bool), (2, yi64), (3, yi64), (9, yi64)] [zR [(8, .bool)], zX 0 []] else if i = 1040003 then zC [zR [(8, .bool)], zN [(0, s0), (1, .slice .bool), (2, yi64), (3, yi64), (9, yi64)]] else if i = 1020004 then zC [zN [(0, s0), (1, .slice .bool), (2, yi64), (3, yi64), (9, yi64)], zX 0 []] else none
theorem any10_eq : EqB any10_c [] any10_h 38 Tryz.f29 [8] [] := fun v => by kernel_rfl
def count10_s2 (a0 : List Bool) (a3 : Int) (a4 : Int) : Option ((List Bool × Int × Int × Unit) ⊕ (Int × Unit)) :=
 ((show Option ((List Bool × Int × Int × Unit) ⊕ (Int × Unit)) from
 bif (decide (a4 < (a0.length : Int))) then
 some (.inl (a0, a3, a4, ()))
 else
 some (.inr (a3, ()))).bind fun y4 =>
 (match y4 with
 | .inl y4 =>
 ((show Option (List Bool × Int × Int × Unit) from
 ((lk y4.1 y4.2.2.1).bind fun x6 =>
 bif x6 then
 some (y4.1, (IntKind.i64.wrap (y4.2.1 + 1)), y4.2.2.1, ())
 else
 some (y4.1, y4.2.1, y4.2.2.1, ()))).bind fun y7 =>
 some (.inl (y7.1, y7.2.1, (IntKind.i64.wrap (y7.2.2.1 + 1)), ())))
 | .inr y4 =>
 some (.inr (y4.1, ()))))
def count10 (p0 : List Bool) : Option (Unit × Int × Unit) :=
 ((iterN (fun x => count10_s2 x.1 x.2.1 x.2.2.1) fuN (p0, (0 : Int), (0 : Int), ())).bind fun y8 =>
 some ((), y8.1, ()))
def count10_c : Ctr := ⟨[.ro (.slice .bool)], [.val yi64], fun v => count10 v.1⟩
def count10_h : zH := fun i => if i = 3 then zL [(0, .slice .bool), (3, yi64), (4, yi64)] [zX 0 [(3, yi64)]] else if i = 1050004 then zC [zN [(0, .slice .bool), (3, yi64), (4, yi64)]] else if i = 1030005 then zC [zN [(0, .slice .bool), (3, yi64), (4, yi64)], zX 0 [(3, yi64)]] else none
theorem count10_eq : EqB count10_c [] count10_h 18 Tryz.f28 [2] [] := fun v => by kernel_rfl
def long10_s5 (a0 : tG) (a1 : tW) (a4 : Bool) (a14 : List Bool) (a15 : Int) (a16 : Bool) (a17 : Int) (a18 : Int) : Option ((tG × tW × Bool × List Bool × Int × Bool × Int × Int × Unit) ⊕ (tG × Bool × List Bool × Int × Bool × Int × Unit)) :=
 ((show Option ((tG × Bool × List Bool × Int × Bool × Int × Unit) ⊕ (tG × tW × Bool × List Bool × Int × Bool × Int × Int × Unit)) from
 ((show Option (tG × tW × Bool × List Bool × Int × Bool × Int × Int × Unit) from
 ((any10 a0 a14 (6 : Int) (6 : Int)).bind fun r8 =>
 bif r8.2.1 then
 some (a0, a1, a4, a14, a18, true, a17, a18, ())
 else
 some (a0, a1, a4, a14, a15, a16, a17, a18, ()))).bind fun y9 =>
 ((show Option ((tG × Bool × List Bool × Int × Bool × Int × Unit) ⊕ (tG × tW × Bool × List Bool × Int × Bool × Int × Int × Unit)) from
 bif (y9.2.2.2.2.2.2.2.1 == (y9.2.1.length : Int)) then
 some (.inl (y9.1, y9.2.2.1, y9.2.2.2.1, y9.2.2.2.2.1, y9.2.2.2.2.2.1, y9.2.2.2.2.2.2.1, ()))
 else
 ((count10 y9.2.2.2.1).bind fun r11 =>
 bif (r11.2.1 == 0) then
 some (.inl (y9.1, y9.2.2.1, y9.2.2.2.1, y9.2.2.2.2.1, y9.2.2.2.2.2.1, y9.2.2.2.2.2.2.1, ()))
 else
 some (.inr (y9.1, y9.2.1, y9.2.2.1, y9.2.2.2.1, y9.2.2.2.2.1, y9.2.2.2.2.2.1, y9.2.2.2.2.2.2.1, y9.2.2.2.2.2.2.2.1, ())))).bind fun y12 =>
 (match y12 with
 | .inl y12 =>
 some (.inl (y12.1, y12.2.1, y12.2.2.1, y12.2.2.2.1, y12.2.2.2.2.1, y12.2.2.2.2.2.1, ()))
 | .inr y12 =>
 ((over10 y12.1 y12.2.2.2.1 y12.2.1 y12.2.2.2.2.2.2.2.1 y12.2.2.1).bind fun r13 =>
 ((count10 r13.2.1).bind fun r14 =>
 some (.inr (y12.1, y12.2.1, y12.2.2.1, r13.2.1, y12.2.2.2.2.1, y12.2.2.2.2.2.1, (IntKind.i64.wrap (y12.2.2.2.2.2.2.1 + r14.2.1)), y12.2.2.2.2.2.2.2.1, ())))))))).bind fun y15 =>
 (match y15 with
 | .inl y15 =>
 some (.inr (y15.1, y15.2.1, y15.2.2.1, y15.2.2.2.1, y15.2.2.2.2.1, y15.2.2.2.2.2.1, ()))
 | .inr y15 =>
 some (.inl (y15.1, y15.2.1, y15.2.2.1, y15.2.2.2.1, y15.2.2.2.2.1, y15.2.2.2.2.2.1, y15.2.2.2.2.2.2.1, (IntKind.i64.wrap (y15.2.2.2.2.2.2.2.1 + 1)), ()))))
def long10 (p0 : tG) (p1 : tW) (p2 : Int) (p3 : Bool) (p4 : Bool) : Option (Unit × Int × Bool × Bool × Int × Unit) :=
 ((begin10 p0 (p1.length : Int) p2 p3 p4).bind fun r1 =>
 ((count10 r1.2.1).bind fun r2 =>
 ((show Option (tG × Bool × List Bool × Int × Bool × Int × Unit) from
 ((iterN (fun x => long10_s5 x.1 x.2.1 x.2.2.1 x.2.2.2.1 x.2.2.2.2.1 x.2.2.2.2.2.1 x.2.2.2.2.2.2.1 x.2.2.2.2.2.2.2.1) fuN (p0, p1, p4, r1.2.1, (0 : Int), false, r2.2.1, p2, ())).bind fun y16 =>
 some (y16.1, y16.2.1, y16.2.2.1, y16.2.2.2.1, y16.2.2.2.2.1, y16.2.2.2.2.2.1, ()))).bind fun y17 =>
 bif (!y17.2.1) then
 ((any10 y17.1 y17.2.2.1 (1 : Int) (5 : Int)).bind fun r18 =>
 some ((), y17.2.2.2.1, y17.2.2.2.2.1, r18.2.1, y17.2.2.2.2.2.1, ()))
 else
 some ((), y17.2.2.2.1, y17.2.2.2.2.1, false, y17.2.2.2.2.2.1, ()))))
def long10_c : Ctr := ⟨[.ro s0, .ro s1, .ro yi64, .ro .bool, .ro .bool], [.val yi64, .val .bool, .val .bool, .val yi64], fun v => long10 v.1 v.2.1 v.2.2.1 v.2.2.2.1 v.2.2.2.2.1⟩
def long10_h : zH := fun i => if i = 1030010 then zC [zN [(0, s0), (4, .bool), (14, .vec .bool), (15, yi64), (16, .bool), (17, yi64)]] else if i = 5 then zL [(0, s0), (1, s1), (4, .bool), (14, .vec .bool), (15, yi64), (16, .bool), (17, yi64), (18, yi64)] [zX 0 [(0, s0), (4, .bool), (14, .vec .bool), (15, yi64), (16, .bool), (17, yi64)]] else if i = 1050004 then zC [zX 0 [(0, s0), (4, .bool), (14, .vec .bool), (15, yi64), (16, .bool), (17, yi64)], zN [(0, s0), (1, s1), (4, .bool), (14, .vec .bool), (15, yi64), (16, .bool), (17, yi64), (18, yi64)]] else if i = 1070008 then zC [zX 0 [(0, s0), (4, .bool), (14, .vec .bool), (15, yi64), (16, .bool), (17, yi64)], zN [(0, s0), (1, s1), (4, .bool), (14, .vec .bool), (15, yi64), (16, .bool), (17, yi64), (18, yi64)]] else if i = 1050007 then zC [zN [(0, s0), (1, s1), (4, .bool), (14, .vec .bool), (15, yi64), (16, .bool), (17, yi64), (18, yi64)]] else none
def long10_g : zG := [(27, begin10_c), (30, over10_c), (29, any10_c), (28, count10_c)]
theorem long10_eq : EqB long10_c long10_g long10_h 64 Tryz.f13 [10, 11, 12, 13] [] := fun v => by kernel_rfl
def all10_s2 (a0 : tG) (a1 : tW) (a5 : List tK) (a6 : Int) : Option ((tG × tW × List tK × Int × Unit) ⊕ (List tK × Unit)) :=
 ((show Option ((tG × tW × List tK × Int × Unit) ⊕ (List tK × Unit)) from
 bif (decide (a6 ≤ (a1.length : Int))) then
 some (.inl (a0, a1, a5, a6, ()))
 else
 some (.inr (a5, ()))).bind fun y4 =>
 (match y4 with
 | .inl y4 =>
 ((long10 y4.1 y4.2.1 y4.2.2.2.1 true true).bind fun r5 =>
 ((show Option (tG × tW × List tK × Int × Int × Bool × Unit) from
 bif r5.2.2.1 then
 bif (roomOk (y4.2.2.1.length + [(y4.2.2.2.1, r5.2.1, (0 : Int), (0 : Int))].length) 32) then
 let l7 := (y4.2.2.1 ++ [(y4.2.2.2.1, r5.2.1, (0 : Int), (0 : Int))])
 some (y4.1, y4.2.1, l7, y4.2.2.2.1, r5.2.1, r5.2.2.1, ())
 else none
 else
 some (y4.1, y4.2.1, y4.2.2.1, y4.2.2.2.1, r5.2.1, r5.2.2.1, ())).bind fun y8 =>
 ((show Option (tG × tW × List tK × Int × Int × Bool × Unit) from
 bif y8.2.2.2.2.2.1 then
 some (y8.1, y8.2.1, y8.2.2.1, y8.2.2.2.1, y8.2.2.2.2.1, (decide (y8.2.2.2.2.1 > y8.2.2.2.1)), ())
 else
 some (y8.1, y8.2.1, y8.2.2.1, y8.2.2.2.1, y8.2.2.2.2.1, false, ())).bind fun y10 =>
 bif y10.2.2.2.2.2.1 then
 some (.inl (y10.1, y10.2.1, y10.2.2.1, y10.2.2.2.2.1, ()))
 else
 some (.inl (y10.1, y10.2.1, y10.2.2.1, (IntKind.i64.wrap (y10.2.2.2.1 + 1)), ())))))
 | .inr y4 =>
 some (.inr (y4.1, ()))))
def all10 (p0 : tG) (p1 : tW) : Option (Unit × List tK × Unit) :=
 ((iterN (fun x => all10_s2 x.1 x.2.1 x.2.2.1 x.2.2.2.1) fuN (p0, p1, ([] : List tK), (0 : Int), ())).bind fun y11 =>
 some ((), y11.1, ()))
def all10_c : Ctr := ⟨[.ro s0, .ro s1], [.own (.vec y6)], fun v => all10 v.1 v.2.1⟩
def all10_h : zH := fun i => if i = 3 then zL [(0, s0), (1, s1), (5, .vec y6), (6, yi64)] [zX 0 [(5, .vec y6)]] else if i = 1070008 then zC [zN [(0, s0), (1, s1), (5, .vec y6), (6, yi64), (7, yi64), (36, .bool)]] else if i = 1050007 then zC [zN [(0, s0), (1, s1), (5, .vec y6), (6, yi64), (7, yi64), (8, .bool)]] else if i = 1030004 then zC [zN [(0, s0), (1, s1), (5, .vec y6), (6, yi64)], zX 0 [(5, .vec y6)]] else none
def all10_g : zG := [(13, long10_c)]
theorem all10_eq : EqB all10_c all10_g all10_h 41 Tryz.f17 [4] [] := fun v => by kernel_rfl
def sameSpans_s4 (a0 : List tK) (a1 : List tK) (a5 : Int) : Option ((List tK × List tK × Int × Unit) ⊕ ((Bool × Unit) ⊕ Unit)) :=
 ((show Option ((List tK × List tK × Int × Unit) ⊕ Unit) from
 bif (decide (a5 < (a0.length : Int))) then
 some (.inl (a0, a1, a5, ()))
 else
 some (.inr ())).bind fun y6 =>
 (match y6 with
 | .inl y6 =>
 ((show Option ((Bool × Unit) ⊕ (List tK × List tK × Int × Unit)) from
 ((lk y6.1 y6.2.2.1).bind fun x8 =>
 ((lk y6.2.1 y6.2.2.1).bind fun x9 =>
 let v10 := (!((decide (x8.1 = x9.1) && (decide (x8.2.1 = x9.2.1) && (decide (x8.2.2.1 = x9.2.2.1) && decide (x8.2.2.2 = x9.2.2.2))))))
 bif v10 then
 some (.inl (false, ()))
 else
 some (.inr (y6.1, y6.2.1, y6.2.2.1, ()))))).bind fun y11 =>
 (match y11 with
 | .inl y11 =>
 some (.inr (.inl (y11.1, ())))
 | .inr y11 =>
 some (.inl (y11.1, y11.2.1, (IntKind.i64.wrap (y11.2.2.1 + 1)), ()))))
 | .inr y6 =>
 some (.inr (.inr ()))))
def sameSpans (p0 : List tK) (p1 : List tK) : Option (Unit × Bool × Unit) :=
 ((show Option ((Bool × Unit) ⊕ (List tK × List tK × Unit)) from
 bif ((p0.length : Int) != (p1.length : Int)) then
 some (.inl (false, ()))
 else
 some (.inr (p0, p1, ()))).bind fun y2 =>
 (match y2 with
 | .inl y2 =>
 some ((), y2.1, ())
 | .inr y2 =>
 ((iterN (fun x => sameSpans_s4 x.1 x.2.1 x.2.2.1) fuN (y2.1, y2.2.1, (0 : Int), ())).bind fun y12 =>
 (match y12 with
 | .inl y12 =>
 some ((), y12.1, ())
 | .inr y12 =>
 some ((), true, ())))))
def sameSpans_c : Ctr := ⟨[.ro (.slice y6), .ro (.slice y6)], [.val .bool], fun v => sameSpans v.1 v.2.1⟩
def sameSpans_h : zH := fun i => if i = 4 then zL [(0, .slice y6), (1, .slice y6), (5, yi64)] [zR [(4, .bool)], zX 0 []] else if i = 1060005 then zC [zR [(4, .bool)], zN [(0, .slice y6), (1, .slice y6), (5, yi64)]] else if i = 1040006 then zC [zN [(0, .slice y6), (1, .slice y6), (5, yi64)], zX 0 []] else if i = 1010003 then zC [zR [(4, .bool)], zN [(0, .slice y6), (1, .slice y6)]] else none
theorem sameSpans_eq : EqB sameSpans_c [] sameSpans_h 26 Tryz.f16 [4] [] := fun v => by kernel_rfl
def composed2 : Option (Unit × List UInt8 × Unit) :=
 let v1 := ([195, 128, 195, 129, 195, 130, 195, 131, 195, 132, 195, 133, 195, 135, 195, 136, 195, 137, 195, 138, 195, 139, 195, 140, 195, 141, 195, 142, 195, 143, 195, 145, 195, 146, 195, 147, 195, 148, 195, 149, 195, 150, 195, 153, 195, 154, 195, 155, 195, 156, 195, 157, 195, 160, 195, 161, 195, 162, 195, 163, 195, 164, 195, 165, 195, 167, 195, 168, 195, 169, 195, 170, 195, 171, 195, 172, 195, 173, 195, 174, 195, 175, 195, 177, 195, 178, 195, 179, 195, 180, 195, 181, 195, 182, 195, 185, 195, 186, 195, 187, 195, 188, 195, 189, 195, 191, 196, 128, 196, 129, 196, 130, 196, 131, 196, 132, 196, 133, 196, 134, 196, 135, 196, 136, 196, 137, 196, 138, 196, 139, 196, 140, 196, 141, 196, 142, 196, 143, 196, 146, 196, 147, 196, 148, 196, 149, 196, 150, 196, 151, 196, 152, 196, 153, 196, 154, 196, 155, 196, 156, 196, 157, 196, 158, 196, 159, 196, 160, 196, 161, 196, 162, 196, 163, 196, 164, 196, 165, 196, 168, 196, 169, 196, 170, 196, 171, 196, 172, 196, 173, 196, 174, 196, 175, 196, 176, 196, 180, 196, 181, 196, 182, 196, 183, 196, 185, 196, 186, 196, 187, 196, 188, 196, 189, 196, 190, 197, 131, 197, 132, 197, 133, 197, 134, 197, 135, 197, 136, 197, 140, 197, 141, 197, 142, 197, 143, 197, 144, 197, 145, 197, 148, 197, 149, 197, 150, 197, 151, 197, 152, 197, 153, 197, 154, 197, 155, 197, 156, 197, 157, 197, 158, 197, 159, 197, 160, 197, 161, 197, 162, 197, 163, 197, 164, 197, 165, 197, 168, 197, 169, 197, 170, 197, 171, 197, 172, 197, 173, 197, 174, 197, 175, 197, 176, 197, 177, 197, 178, 197, 179, 197, 180, 197, 181, 197, 182, 197, 183, 197, 184, 197, 185, 197, 186, 197, 187, 197, 188, 197, 189, 197, 190] : List UInt8)
 some ((), v1, ())
def composed2_c : Ctr := ⟨[], [.val .str], fun v => composed2⟩
theorem composed2_eq : EqB composed2_c [] h0 1 Tryz.f143 [0] [] := fun v => by kernel_rfl
def letters2 : Option (Unit × List UInt8 × Unit) :=
 let v1 := ([65, 65, 65, 65, 65, 65, 67, 69, 69, 69, 69, 73, 73, 73, 73, 78, 79, 79, 79, 79, 79, 85, 85, 85, 85, 89, 97, 97, 97, 97, 97, 97, 99, 101, 101, 101, 101, 105, 105, 105, 105, 110, 111, 111, 111, 111, 111, 117, 117, 117, 117, 121, 121, 65, 97, 65, 97, 65, 97, 67, 99, 67, 99, 67, 99, 67, 99, 68, 100, 69, 101, 69, 101, 69, 101, 69, 101, 69, 101, 71, 103, 71, 103, 71, 103, 71, 103, 72, 104, 73, 105, 73, 105, 73, 105, 73, 105, 73, 74, 106, 75, 107, 76, 108, 76, 108, 76, 108, 78, 110, 78, 110, 78, 110, 79, 111, 79, 111, 79, 111, 82, 114, 82, 114, 82, 114, 83, 115, 83, 115, 83, 115, 83, 115, 84, 116, 84, 116, 85, 117, 85, 117, 85, 117, 85, 117, 85, 117, 85, 117, 87, 119, 89, 121, 89, 90, 122, 90, 122, 90, 122] : List UInt8)
 some ((), v1, ())
def letters2_c : Ctr := ⟨[], [.val .str], fun v => letters2⟩
theorem letters2_eq : EqB letters2_c [] h0 1 Tryz.f145 [0] [] := fun v => by kernel_rfl
def marked2 : Option (Unit × List UInt8 × Unit) :=
 let v1 := ([204, 128, 204, 129, 204, 130, 204, 131, 204, 136, 204, 138, 204, 167, 204, 128, 204, 129, 204, 130, 204, 136, 204, 128, 204, 129, 204, 130, 204, 136, 204, 131, 204, 128, 204, 129, 204, 130, 204, 131, 204, 136, 204, 128, 204, 129, 204, 130, 204, 136, 204, 129, 204, 128, 204, 129, 204, 130, 204, 131, 204, 136, 204, 138, 204, 167, 204, 128, 204, 129, 204, 130, 204, 136, 204, 128, 204, 129, 204, 130, 204, 136, 204, 131, 204, 128, 204, 129, 204, 130, 204, 131, 204, 136, 204, 128, 204, 129, 204, 130, 204, 136, 204, 129, 204, 136, 204, 132, 204, 132, 204, 134, 204, 134, 204, 168, 204, 168, 204, 129, 204, 129, 204, 130, 204, 130, 204, 135, 204, 135, 204, 140, 204, 140, 204, 140, 204, 140, 204, 132, 204, 132, 204, 134, 204, 134, 204, 135, 204, 135, 204, 168, 204, 168, 204, 140, 204, 140, 204, 130, 204, 130, 204, 134, 204, 134, 204, 135, 204, 135, 204, 167, 204, 167, 204, 130, 204, 130, 204, 131, 204, 131, 204, 132, 204, 132, 204, 134, 204, 134, 204, 168, 204, 168, 204, 135, 204, 130, 204, 130, 204, 167, 204, 167, 204, 129, 204, 129, 204, 167, 204, 167, 204, 140, 204, 140, 204, 129, 204, 129, 204, 167, 204, 167, 204, 140, 204, 140, 204, 132, 204, 132, 204, 134, 204, 134, 204, 139, 204, 139, 204, 129, 204, 129, 204, 167, 204, 167, 204, 140, 204, 140, 204, 129, 204, 129, 204, 130, 204, 130, 204, 167, 204, 167, 204, 140, 204, 140, 204, 167, 204, 167, 204, 140, 204, 140, 204, 131, 204, 131, 204, 132, 204, 132, 204, 134, 204, 134, 204, 138, 204, 138, 204, 139, 204, 139, 204, 168, 204, 168, 204, 130, 204, 130, 204, 130, 204, 130, 204, 136, 204, 129, 204, 129, 204, 135, 204, 135, 204, 140, 204, 140] : List UInt8)
 some ((), v1, ())
def marked2_c : Ctr := ⟨[], [.val .str], fun v => marked2⟩
theorem marked2_eq : EqB marked2_c [] h0 1 Tryz.f146 [0] [] := fun v => by kernel_rfl
def nth2_s2 (a1 : Int) (a5 : Int) (a9 : (List UInt8 × Nat)) : Option ((Int × Int × (List UInt8 × Nat) × Unit) ⊕ ((Int × Unit) ⊕ Unit)) :=
 bif ((itNext a9.1 a9.2).1.isSome) then
 (((itNext a9.1 a9.2).1.map (·.2)).bind fun x3 =>
 ((show Option ((Int × Unit) ⊕ (Int × Int × (List UInt8 × Nat) × Unit)) from
 bif (a5 == a1) then
 some (.inl (x3, ()))
 else
 some (.inr (a1, a5, (a9.1, (itNext a9.1 a9.2).2), ()))).bind fun y5 =>
 (match y5 with
 | .inl y5 =>
 some (.inr (.inl (y5.1, ())))
 | .inr y5 =>
 some (.inl (y5.1, (IntKind.i64.wrap (y5.2.1 + 1)), y5.2.2.1, ())))))
 else
 some (.inr (.inr ()))
def nth2 (p0 : List UInt8) (p1 : Int) : Option (Unit × Int × Unit) :=
 ((iterN (fun x => nth2_s2 x.1 x.2.1 x.2.2.1) fuN (p1, (0 : Int), (p0, 0), ())).bind fun y6 =>
 (match y6 with
 | .inl y6 =>
 some ((), y6.1, ())
 | .inr y6 =>
 some ((), (0 : Int), ())))
def nth2_c : Ctr := ⟨[.ro .str, .ro yi64], [.val yi32], fun v => nth2 v.1 v.2.1⟩
def nth2_h : zH := fun i => if i = 3 then zL [(1, yi64), (5, yi64), (9, .iter)] [zR [(4, yi32)], zX 0 []] else if i = 1050007 then zC [zR [(4, yi32)], zN [(1, yi64), (5, yi64), (9, .iter)]] else none
theorem nth2_eq : EqB nth2_c [] nth2_h 19 Tryz.f144 [4] [] := fun v => by kernel_rfl
def few2 (p0 : Int) : Option (Unit × Int × Int × Int × Unit) :=
 ((show Option ((Int × Int × Int × Unit) ⊕ Unit) from
 bif (p0 == 469) then
 some (.inl ((220 : Int), (772 : Int), (2 : Int), ()))
 else
 bif (p0 == 470) then
 some (.inl ((252 : Int), (772 : Int), (2 : Int), ()))
 else
 bif (p0 == 832) then
 some (.inl ((768 : Int), (0 : Int), (1 : Int), ()))
 else
 bif (p0 == 833) then
 some (.inl ((769 : Int), (0 : Int), (1 : Int), ()))
 else
 bif (p0 == 835) then
 some (.inl ((787 : Int), (0 : Int), (1 : Int), ()))
 else
 bif (p0 == 836) then
 some (.inl ((776 : Int), (769 : Int), (2 : Int), ()))
 else
 bif (p0 == 902) then
 some (.inl ((913 : Int), (769 : Int), (2 : Int), ()))
 else
 bif (p0 == 912) then
 some (.inl ((970 : Int), (769 : Int), (2 : Int), ()))
 else
 bif (p0 == 940) then
 some (.inl ((945 : Int), (769 : Int), (2 : Int), ()))
 else
 bif (p0 == 943) then
 some (.inl ((953 : Int), (769 : Int), (2 : Int), ()))
 else
 bif (p0 == 970) then
 some (.inl ((953 : Int), (776 : Int), (2 : Int), ()))
 else
 bif (p0 == 972) then
 some (.inl ((959 : Int), (769 : Int), (2 : Int), ()))
 else
 bif (p0 == 7691) then
 some (.inl ((100 : Int), (775 : Int), (2 : Int), ()))
 else
 bif (p0 == 7693) then
 some (.inl ((100 : Int), (803 : Int), (2 : Int), ()))
 else
 bif (p0 == 7777) then
 some (.inl ((115 : Int), (775 : Int), (2 : Int), ()))
 else
 bif (p0 == 7779) then
 some (.inl ((115 : Int), (803 : Int), (2 : Int), ()))
 else
 bif (p0 == 7785) then
 some (.inl ((7779 : Int), (775 : Int), (2 : Int), ()))
 else
 bif (p0 == 7841) then
 some (.inl ((97 : Int), (803 : Int), (2 : Int), ()))
 else
 bif (p0 == 7844) then
 some (.inl ((194 : Int), (769 : Int), (2 : Int), ()))
 else
 bif (p0 == 7845) then
 some (.inl ((226 : Int), (769 : Int), (2 : Int), ()))
 else
 bif (p0 == 7863) then
 some (.inl ((7841 : Int), (774 : Int), (2 : Int), ()))
 else
 bif (p0 == 7865) then
 some (.inl ((101 : Int), (803 : Int), (2 : Int), ()))
 else
 bif (p0 == 7879) then
 some (.inl ((7865 : Int), (770 : Int), (2 : Int), ()))
 else
 bif (p0 == 8049) then
 some (.inl ((940 : Int), (0 : Int), (1 : Int), ()))
 else
 bif (p0 == 8115) then
 some (.inl ((945 : Int), (837 : Int), (2 : Int), ()))
 else
 bif (p0 == 8486) then
 some (.inl ((937 : Int), (0 : Int), (1 : Int), ()))
 else
 bif (p0 == 8490) then
 some (.inl ((75 : Int), (0 : Int), (1 : Int), ()))
 else
 bif (p0 == 8491) then
 some (.inl ((197 : Int), (0 : Int), (1 : Int), ()))
 else
 bif (p0 == 8800) then
 some (.inl ((61 : Int), (824 : Int), (2 : Int), ()))
 else
 bif (p0 == 12364) then
 some (.inl ((12363 : Int), (12441 : Int), (2 : Int), ()))
 else
 bif (p0 == 12497) then
 some (.inl ((12495 : Int), (12442 : Int), (2 : Int), ()))
 else
 some (.inr ())).bind fun y2 =>
 (match y2 with
 | .inl y2 =>
 some ((), y2.1, y2.2.1, y2.2.2.1, ())
 | .inr y2 =>
 some ((), (0 : Int), (0 : Int), (0 : Int), ())))
def few2_c : Ctr := ⟨[.ro yi32], [.val yi32, .val yi32, .val yi64], fun v => few2 v.1⟩
def few2_h : zH := fun i => if i = 1010064 then zC [zR [(2, yi32), (3, yi32), (4, yi64)], zN []] else none
theorem few2_eq : EqB few2_c [] few2_h 68 Tryz.f147 [2, 3, 4] [] := fun v => by kernel_rfl
def in2 (p0 : Int) (p1 : Int) (p2 : Int) : Option (Unit × Bool × Unit) :=
 bif (decide (p1 ≤ p0)) then
 some ((), (decide (p0 ≤ p2)), ())
 else
 some ((), false, ())
def in2_c : Ctr := ⟨[.ro yi32, .ro yi32, .ro yi32], [.val .bool], fun v => in2 v.1 v.2.1 v.2.2.1⟩
theorem in2_eq : EqB in2_c [] h0 15 Tryz.f129 [6] [] := fun v => by kernel_rfl
def pair2_s14 (a0 : Int) (a9 : Int) (a10 : Int) (a39 : (List UInt8 × Nat)) : Option ((Int × Int × Int × (List UInt8 × Nat) × Unit) ⊕ (Int × Int × Unit)) :=
 bif ((itNext a39.1 a39.2).1.isSome) then
 (((itNext a39.1 a39.2).1.map (·.2)).bind fun x15 =>
 ((show Option (Int × Int × Int × (List UInt8 × Nat) × Unit) from
 bif (x15 == a0) then
 some (a0, a10, a10, (a39.1, (itNext a39.1 a39.2).2), ())
 else
 some (a0, a9, a10, (a39.1, (itNext a39.1 a39.2).2), ())).bind fun y17 =>
 some (.inl (y17.1, y17.2.1, (IntKind.i64.wrap (y17.2.2.1 + 1)), y17.2.2.2.1, ()))))
 else
 some (.inr (a0, a9, ()))
def pair2 (p0 : Int) : Option (Unit × Int × Int × Int × Unit) :=
 ((show Option ((Int × Int × Int × Unit) ⊕ (Int × Unit)) from
 ((in2 p0 (44032 : Int) (55203 : Int)).bind fun r2 =>
 bif r2.2.1 then
 bif ((588 : Int) != 0) then
 let v3 := (IntKind.i32.wrap (Int.tdiv (IntKind.i32.wrap (p0 - 44032)) (588 : Int)))
 bif ((28 : Int) != 0) then
 let v4 := (IntKind.i32.wrap (Int.tdiv (IntKind.i32.wrap (p0 - 44032)) (28 : Int)))
 bif ((21 : Int) != 0) then
 bif ((28 : Int) != 0) then
 let v5 := (Int.tmod (IntKind.i32.wrap (p0 - 44032)) (28 : Int))
 ((show Option ((Int × Int × Int × Unit) ⊕ (Int × Int × Int × Unit)) from
 bif (v5 == 0) then
 some (.inl ((IntKind.i32.wrap ((4352 : Int) + v3)), (IntKind.i32.wrap ((4449 : Int) + (Int.tmod v4 (21 : Int)))), (2 : Int), ()))
 else
 some (.inr (v3, (Int.tmod v4 (21 : Int)), v5, ()))).bind fun y7 =>
 (match y7 with
 | .inl y7 =>
 some (.inl (y7.1, y7.2.1, y7.2.2.1, ()))
 | .inr y7 =>
 let v8 := (IntKind.i32.wrap ((IntKind.i32.wrap (y7.1 * 21)) + y7.2.1))
 let v9 := (IntKind.i32.wrap ((44032 : Int) + (IntKind.i32.wrap (v8 * 28))))
 some (.inl (v9, (IntKind.i32.wrap ((4519 : Int) + y7.2.2.1)), (2 : Int), ()))))
 else none
 else none
 else none
 else none
 else
 some (.inr (p0, ())))).bind fun y10 =>
 (match y10 with
 | .inl y10 =>
 some ((), y10.1, y10.2.1, y10.2.2.1, ())
 | .inr y10 =>
 ((show Option (Int × Int × Unit) from
 ((composed2).bind fun r12 =>
 ((iterN (fun x => pair2_s14 x.1 x.2.1 x.2.2.1 x.2.2.2.1) fuN (y10.1, (-1 : Int), (0 : Int), (r12.2.1, 0), ())).bind fun y18 =>
 some (y18.1, y18.2.1, ())))).bind fun y19 =>
 ((show Option ((Int × Int × Int × Unit) ⊕ (Int × Unit)) from
 bif (decide (y19.2.1 ≥ 0)) then
 ((letters2).bind fun r21 =>
 ((nth2 r21.2.1 y19.2.1).bind fun r22 =>
 ((marked2).bind fun r23 =>
 ((nth2 r23.2.1 y19.2.1).bind fun r24 =>
 some (.inl (r22.2.1, r24.2.1, (2 : Int), ()))))))
 else
 some (.inr (y19.1, ()))).bind fun y25 =>
 (match y25 with
 | .inl y25 =>
 some ((), y25.1, y25.2.1, y25.2.2.1, ())
 | .inr y25 =>
 ((few2 y25.1).bind fun r26 =>
 some ((), r26.2.1, r26.2.2.1, r26.2.2.2.1, ())))))))
def pair2_c : Ctr := ⟨[.ro yi32], [.val yi32, .val yi32, .val yi64], fun v => pair2 v.1⟩
def pair2_h : zH := fun i => if i = 1150017 then zC [zR [(2, yi32), (3, yi32), (4, yi64)], zN [(0, yi32)]] else if i = 1090015 then zC [zN [(0, yi32), (9, yi64)]] else if i = 10 then zL [(0, yi32), (9, yi64), (10, yi64), (39, .iter)] [zX 0 [(0, yi32), (9, yi64)]] else if i = 1120014 then zC [zN [(0, yi32), (9, yi64), (10, yi64), (39, .iter)]] else if i = 1010007 then zC [zR [(2, yi32), (3, yi32), (4, yi64)], zN [(0, yi32)]] else if i = 1040006 then zC [zR [(2, yi32), (3, yi32), (4, yi64)], zN [(6, yi32), (7, yi32), (8, yi32)]] else none
def pair2_g : zG := [(143, composed2_c), (145, letters2_c), (146, marked2_c), (144, nth2_c), (147, few2_c), (129, in2_c)]
theorem pair2_eq : EqB pair2_c pair2_g pair2_h 62 Tryz.f128 [2, 3, 4] [] := fun v => by kernel_rfl
def decomp2_s5 (a3 : List Int) (a4 : Int) (a5 : Int) (a6 : Int) (a7 : Int) (a8 : Int) : Option ((List Int × Int × Int × Int × Int × Int × Unit) ⊕ (List Int × Int × Int × Int × Int × Unit)) :=
 ((show Option ((List Int × Int × Int × Int × Int × Int × Unit) ⊕ (List Int × Int × Int × Int × Int × Unit)) from
 bif (decide (a8 < (a3.length : Int))) then
 bif (decide (a4 < 0)) then
 some (.inl (a3, a4, a5, a6, a7, a8, ()))
 else
 some (.inr (a3, a4, a5, a6, a7, ()))
 else
 some (.inr (a3, a4, a5, a6, a7, ()))).bind fun y7 =>
 (match y7 with
 | .inl y7 =>
 ((show Option (List Int × Int × Int × Int × Int × Int × Unit) from
 ((lk y7.1 y7.2.2.2.2.2.1).bind fun _x9 =>
 ((lk y7.1 y7.2.2.2.2.2.1).bind fun x10 =>
 ((pair2 x10).bind fun r11 =>
 bif (decide (r11.2.2.2.1 > 0)) then
 some (y7.1, y7.2.2.2.2.2.1, r11.2.1, r11.2.2.1, r11.2.2.2.1, y7.2.2.2.2.2.1, ())
 else
 some (y7.1, y7.2.1, y7.2.2.1, y7.2.2.2.1, y7.2.2.2.2.1, y7.2.2.2.2.2.1, ()))))).bind fun y12 =>
 some (.inl (y12.1, y12.2.1, y12.2.2.1, y12.2.2.2.1, y12.2.2.2.2.1, (IntKind.i64.wrap (y12.2.2.2.2.2.1 + 1)), ())))
 | .inr y7 =>
 some (.inr (y7.1, y7.2.1, y7.2.2.1, y7.2.2.2.1, y7.2.2.2.2.1, ()))))
def decomp2_s18 (a3 : List Int) (a4 : Int) (a5 : Int) (a6 : Int) (a7 : Int) (a12 : List Int) (a13 : Int) : Option ((List Int × Int × Int × Int × Int × List Int × Int × Unit) ⊕ (List Int × Unit)) :=
 ((show Option ((List Int × Int × Int × Int × Int × List Int × Int × Unit) ⊕ (List Int × Unit)) from
 bif (decide (a13 < (a3.length : Int))) then
 some (.inl (a3, a4, a5, a6, a7, a12, a13, ()))
 else
 some (.inr (a12, ()))).bind fun y20 =>
 (match y20 with
 | .inl y20 =>
 ((show Option (List Int × Int × Int × Int × Int × List Int × Int × Unit) from
 bif (y20.2.2.2.2.2.2.1 != y20.2.1) then
 ((lk y20.1 y20.2.2.2.2.2.2.1).bind fun _x22 =>
 ((lk y20.1 y20.2.2.2.2.2.2.1).bind fun x23 =>
 bif (roomOk (y20.2.2.2.2.2.1.length + [x23].length) 4) then
 some (y20.1, y20.2.1, y20.2.2.1, y20.2.2.2.1, y20.2.2.2.2.1, (y20.2.2.2.2.2.1 ++ [x23]), y20.2.2.2.2.2.2.1, ())
 else none))
 else
 bif (y20.2.2.2.2.1 == 1) then
 bif (roomOk (y20.2.2.2.2.2.1.length + [y20.2.2.1].length) 4) then
 some (y20.1, y20.2.1, y20.2.2.1, y20.2.2.2.1, y20.2.2.2.2.1, (y20.2.2.2.2.2.1 ++ [y20.2.2.1]), y20.2.2.2.2.2.2.1, ())
 else none
 else
 bif (roomOk (y20.2.2.2.2.2.1.length + [y20.2.2.1, y20.2.2.2.1].length) 4) then
 some (y20.1, y20.2.1, y20.2.2.1, y20.2.2.2.1, y20.2.2.2.2.1, (y20.2.2.2.2.2.1 ++ [y20.2.2.1, y20.2.2.2.1]), y20.2.2.2.2.2.2.1, ())
 else none).bind fun y24 =>
 some (.inl (y24.1, y24.2.1, y24.2.2.1, y24.2.2.2.1, y24.2.2.2.2.1, y24.2.2.2.2.2.1, (IntKind.i64.wrap (y24.2.2.2.2.2.2.1 + 1)), ())))
 | .inr y20 =>
 some (.inr (y20.1, ()))))
def decomp2_s2 (a3 : List Int) : Option ((List Int × Unit) ⊕ (List Int × Unit)) :=
 ((show Option (List Int × Int × Int × Int × Int × Unit) from
 ((iterN (fun x => decomp2_s5 x.1 x.2.1 x.2.2.1 x.2.2.2.1 x.2.2.2.2.1 x.2.2.2.2.2.1) fuN (a3, (-1 : Int), (0 : Int), (0 : Int), (0 : Int), (0 : Int), ())).bind fun y13 =>
 some (y13.1, y13.2.1, y13.2.2.1, y13.2.2.2.1, y13.2.2.2.2.1, ()))).bind fun y14 =>
 ((show Option ((List Int × Unit) ⊕ (List Int × Int × Int × Int × Int × Unit)) from
 bif (decide (y14.2.1 < 0)) then
 some (.inl (y14.1, ()))
 else
 some (.inr (y14.1, y14.2.1, y14.2.2.1, y14.2.2.2.1, y14.2.2.2.2.1, ()))).bind fun y16 =>
 (match y16 with
 | .inl y16 =>
 some (.inr (y16.1, ()))
 | .inr y16 =>
 ((iterN (fun x => decomp2_s18 x.1 x.2.1 x.2.2.1 x.2.2.2.1 x.2.2.2.2.1 x.2.2.2.2.2.1 x.2.2.2.2.2.2.1) fuN (y16.1, y16.2.1, y16.2.2.1, y16.2.2.2.1, y16.2.2.2.2.1, ([] : List Int), (0 : Int), ())).bind fun y25 =>
 some (.inl (y25.1, ()))))))
def decomp2 (p0 : Int) : Option (Unit × List Int × Unit) :=
 ((iterN (fun x => decomp2_s2 x.1) fuN ([p0], ())).bind fun y26 =>
 some ((), y26.1, ()))
def decomp2_c : Ctr := ⟨[.ro yi32], [.own (.vec yi32)], fun v => decomp2 v.1⟩
def decomp2_h : zH := fun i => if i = 2 then zL [(3, .vec yi32)] [zR [(2, .vec yi32)]] else if i = 13 then zL [(3, .vec yi32), (4, yi64), (5, yi32), (6, yi32), (7, yi64), (12, .vec yi32), (13, yi64)] [zX 4 [(12, .vec yi32)]] else if i = 1150014 then zC [zN [(3, .vec yi32), (4, yi64), (5, yi32), (6, yi32), (7, yi64), (12, .vec yi32), (13, yi64)]] else if i = 1130015 then zC [zN [(3, .vec yi32), (4, yi64), (5, yi32), (6, yi32), (7, yi64), (12, .vec yi32), (13, yi64)], zX 4 [(12, .vec yi32)]] else if i = 1090011 then zC [zR [(2, .vec yi32)], zN [(3, .vec yi32), (4, yi64), (5, yi32), (6, yi32), (7, yi64)]] else if i = 1030009 then zC [zN [(3, .vec yi32), (4, yi64), (5, yi32), (6, yi32), (7, yi64)]] else if i = 4 then zL [(3, .vec yi32), (4, yi64), (5, yi32), (6, yi32), (7, yi64), (8, yi64)] [zX 2 [(3, .vec yi32), (4, yi64), (5, yi32), (6, yi32), (7, yi64)]] else if i = 1060005 then zC [zN [(3, .vec yi32), (4, yi64), (5, yi32), (6, yi32), (7, yi64), (8, yi64)]] else if i = 1040006 then zC [zN [(3, .vec yi32), (4, yi64), (5, yi32), (6, yi32), (7, yi64), (8, yi64)], zX 2 [(3, .vec yi32), (4, yi64), (5, yi32), (6, yi32), (7, yi64)]] else none
def decomp2_g : zG := [(128, pair2_c)]
theorem decomp2_eq : EqB decomp2_c decomp2_g decomp2_h 72 Tryz.f109 [2] [] := fun v => by kernel_rfl
def class2 (p0 : Int) : Option (Unit × Int × Unit) :=
 ((show Option (Int × Bool × Unit) from
 ((in2 p0 (768 : Int) (788 : Int)).bind fun r2 =>
 bif r2.2.1 then
 some (p0, r2.2.1, ())
 else
 ((in2 p0 (829 : Int) (836 : Int)).bind fun r3 =>
 bif r3.2.1 then
 some (p0, r3.2.1, ())
 else
 ((in2 p0 (838 : Int) (838 : Int)).bind fun r4 =>
 bif r4.2.1 then
 some (p0, r4.2.1, ())
 else
 ((show Option (Int × Bool × Unit) from
 ((in2 p0 (842 : Int) (844 : Int)).bind fun r6 =>
 bif r6.2.1 then
 some (p0, true, ())
 else
 ((in2 p0 (848 : Int) (850 : Int)).bind fun r7 =>
 some (p0, r7.2.1, ())))).bind fun y8 =>
 bif y8.2.1 then
 some (y8.1, y8.2.1, ())
 else
 ((in2 y8.1 (855 : Int) (855 : Int)).bind fun r9 =>
 bif r9.2.1 then
 some (y8.1, r9.2.1, ())
 else
 ((in2 y8.1 (8400 : Int) (8401 : Int)).bind fun r10 =>
 some (y8.1, r10.2.1, ())))))))).bind fun y11 =>
 bif y11.2.1 then
 some ((), (230 : Int), ())
 else
 ((show Option (Int × Bool × Unit) from
 ((in2 y11.1 (789 : Int) (789 : Int)).bind fun r13 =>
 bif r13.2.1 then
 some (y11.1, r13.2.1, ())
 else
 ((in2 y11.1 (794 : Int) (794 : Int)).bind fun r14 =>
 some (y11.1, r14.2.1, ())))).bind fun y15 =>
 bif y15.2.1 then
 some ((), (232 : Int), ())
 else
 ((show Option (Int × Bool × Unit) from
 ((in2 y15.1 (790 : Int) (793 : Int)).bind fun r17 =>
 bif r17.2.1 then
 some (y15.1, r17.2.1, ())
 else
 ((in2 y15.1 (796 : Int) (800 : Int)).bind fun r18 =>
 bif r18.2.1 then
 some (y15.1, r18.2.1, ())
 else
 ((in2 y15.1 (803 : Int) (806 : Int)).bind fun r19 =>
 bif r19.2.1 then
 some (y15.1, r19.2.1, ())
 else
 ((show Option (Int × Bool × Unit) from
 ((in2 y15.1 (809 : Int) (819 : Int)).bind fun r21 =>
 bif r21.2.1 then
 some (y15.1, true, ())
 else
 ((in2 y15.1 (825 : Int) (828 : Int)).bind fun r22 =>
 some (y15.1, r22.2.1, ())))).bind fun y23 =>
 bif y23.2.1 then
 some (y23.1, y23.2.1, ())
 else
 ((in2 y23.1 (839 : Int) (841 : Int)).bind fun r24 =>
 bif r24.2.1 then
 some (y23.1, r24.2.1, ())
 else
 ((in2 y23.1 (845 : Int) (846 : Int)).bind fun r25 =>
 bif r25.2.1 then
 some (y23.1, r25.2.1, ())
 else
 ((in2 y23.1 (851 : Int) (854 : Int)).bind fun r26 =>
 some (y23.1, r26.2.1, ()))))))))).bind fun y27 =>
 bif y27.2.1 then
 some ((), (220 : Int), ())
 else
 ((in2 y27.1 (795 : Int) (795 : Int)).bind fun r28 =>
 bif r28.2.1 then
 some ((), (216 : Int), ())
 else
 ((show Option (Int × Bool × Unit) from
 ((in2 y27.1 (801 : Int) (802 : Int)).bind fun r30 =>
 bif r30.2.1 then
 some (y27.1, r30.2.1, ())
 else
 ((in2 y27.1 (807 : Int) (808 : Int)).bind fun r31 =>
 some (y27.1, r31.2.1, ())))).bind fun y32 =>
 bif y32.2.1 then
 some ((), (202 : Int), ())
 else
 ((in2 y32.1 (820 : Int) (824 : Int)).bind fun r33 =>
 bif r33.2.1 then
 some ((), (1 : Int), ())
 else
 ((in2 y32.1 (837 : Int) (837 : Int)).bind fun r34 =>
 bif r34.2.1 then
 some ((), (240 : Int), ())
 else
 ((in2 y32.1 (12441 : Int) (12442 : Int)).bind fun r35 =>
 bif r35.2.1 then
 some ((), (8 : Int), ())
 else
 some ((), (0 : Int), ())))))))))
def class2_c : Ctr := ⟨[.ro yi32], [.val yi64], fun v => class2 v.1⟩
def class2_h : zH := fun i => if i = 1210023 then zC [zN [(0, yi32), (47, .bool)]] else if i = 1110018 then zC [zN [(0, yi32), (25, .bool)]] else if i = 1140015 then zC [zN [(0, yi32), (25, .bool)]] else if i = 1080010 then zC [zN [(0, yi32), (20, .bool)]] else if i = 1010007 then zC [zN [(0, yi32), (3, .bool)]] else if i = 1040005 then zC [zN [(0, yi32), (3, .bool)]] else none
def class2_g : zG := [(129, in2_c)]
theorem class2_eq : EqB class2_c class2_g class2_h 61 Tryz.f110 [2] [] := fun v => by kernel_rfl
def trailing2 (p0 : Int) : Option (Unit × Bool × Unit) :=
 ((in2 p0 (4449 : Int) (4469 : Int)).bind fun r1 =>
 bif r1.2.1 then
 some ((), true, ())
 else
 ((in2 p0 (4520 : Int) (4546 : Int)).bind fun r2 =>
 some ((), r2.2.1, ())))
def trailing2_c : Ctr := ⟨[.ro yi32], [.val .bool], fun v => trailing2 v.1⟩
def trailing2_g : zG := [(129, in2_c)]
theorem trailing2_eq : EqB trailing2_c trailing2_g h0 9 Tryz.f111 [2] [] := fun v => by kernel_rfl
def opens2 (p0 : Int) : Option (Unit × Bool × Unit) :=
 ((decomp2 p0).bind fun r1 =>
 ((lk r1.2.1 (0 : Int)).bind fun _x2 =>
 ((lk r1.2.1 (0 : Int)).bind fun x3 =>
 ((class2 x3).bind fun r4 =>
 bif (r4.2.1 == 0) then
 ((lk r1.2.1 (0 : Int)).bind fun _x5 =>
 ((lk r1.2.1 (0 : Int)).bind fun x6 =>
 ((trailing2 x6).bind fun r7 =>
 some ((), (!r7.2.1), ()))))
 else
 some ((), false, ())))))
def opens2_c : Ctr := ⟨[.ro yi32], [.val .bool], fun v => opens2 v.1⟩
def opens2_g : zG := [(109, decomp2_c), (110, class2_c), (111, trailing2_c)]
theorem opens2_eq : EqB opens2_c opens2_g h0 18 Tryz.f94 [2] [] := fun v => by kernel_rfl
def normal3_s22 (a0 : List Int) (a3 : List Int) (a4 : Int) (a5 : Int) (a6 : List Int) (a7 : Int) (a8 : Int) (a9 : Int) (a10 : Int) : Option ((List Int × List Int × Int × Int × List Int × Int × Int × Int × Int × Unit) ⊕ (List Int × List Int × Int × Int × List Int × Int × Int × Unit)) :=
 ((show Option ((List Int × List Int × Int × Int × List Int × Int × Int × Int × Int × Unit) ⊕ (List Int × List Int × Int × Int × List Int × Int × Int × Unit)) from
 bif (decide (a9 < a10)) then
 some (.inl (a0, a3, a4, a5, a6, a7, a8, a9, a10, ()))
 else
 some (.inr (a0, a3, a4, a5, a6, a7, a9, ()))).bind fun y24 =>
 (match y24 with
 | .inl y24 =>
 let v25 := (IntKind.i64.wrap (y24.2.2.2.2.2.2.2.1 + y24.2.2.2.2.2.2.2.2.1))
 bif ((2 : Int) != 0) then
 ((lk y24.2.1 (IntKind.i64.wrap (Int.tdiv v25 (2 : Int)))).bind fun _x26 =>
 ((lk y24.2.1 (IntKind.i64.wrap (Int.tdiv v25 (2 : Int)))).bind fun x27 =>
 ((class2 x27).bind fun r28 =>
 bif (decide (r28.2.1 > y24.2.2.2.2.2.2.1)) then
 some (.inl (y24.1, y24.2.1, y24.2.2.1, y24.2.2.2.1, y24.2.2.2.2.1, y24.2.2.2.2.2.1, y24.2.2.2.2.2.2.1, y24.2.2.2.2.2.2.2.1, (IntKind.i64.wrap (Int.tdiv v25 (2 : Int))), ()))
 else
 let v29 := (IntKind.i64.wrap ((IntKind.i64.wrap (Int.tdiv v25 (2 : Int))) + 1))
 some (.inl (y24.1, y24.2.1, y24.2.2.1, y24.2.2.2.1, y24.2.2.2.2.1, y24.2.2.2.2.2.1, y24.2.2.2.2.2.2.1, v29, y24.2.2.2.2.2.2.2.2.1, ())))))
 else none
 | .inr y24 =>
 some (.inr (y24.1, y24.2.1, y24.2.2.1, y24.2.2.2.1, y24.2.2.2.2.1, y24.2.2.2.2.2.1, y24.2.2.2.2.2.2.1, ()))))
def normal3_s34 (a0 : List Int) (a3 : List Int) (a4 : Int) (a5 : Int) (a6 : List Int) (a7 : Int) (a9 : Int) (a12 : Int) : Option ((List Int × List Int × Int × Int × List Int × Int × Int × Int × Unit) ⊕ (List Int × List Int × Int × Int × List Int × Int × Int × Unit)) :=
 ((show Option ((List Int × List Int × Int × Int × List Int × Int × Int × Int × Unit) ⊕ (List Int × List Int × Int × Int × List Int × Int × Int × Unit)) from
 bif (decide (a12 > a9)) then
 some (.inl (a0, a3, a4, a5, a6, a7, a9, a12, ()))
 else
 some (.inr (a0, a3, a4, a5, a6, a7, a9, ()))).bind fun y36 =>
 (match y36 with
 | .inl y36 =>
 ((show Option (List Int × List Int × Int × Int × List Int × Int × Int × Int × Unit) from
 ((lk y36.2.1 (IntKind.i64.wrap (y36.2.2.2.2.2.2.2.1 - 1))).bind fun _x38 =>
 ((lk y36.2.1 (IntKind.i64.wrap (y36.2.2.2.2.2.2.2.1 - 1))).bind fun x39 =>
 ((lk y36.2.1 y36.2.2.2.2.2.2.2.1).bind fun _x40 =>
 ((lk y36.2.1 y36.2.2.2.2.2.2.2.1).bind fun x41 =>
 some (y36.1, (y36.2.1.set y36.2.2.2.2.2.2.2.1.toNat x39), y36.2.2.1, y36.2.2.2.1, y36.2.2.2.2.1, y36.2.2.2.2.2.1, y36.2.2.2.2.2.2.1, y36.2.2.2.2.2.2.2.1, ())))))).bind fun y42 =>
 some (.inl (y42.1, y42.2.1, y42.2.2.1, y42.2.2.2.1, y42.2.2.2.2.1, y42.2.2.2.2.2.1, y42.2.2.2.2.2.2.1, (IntKind.i64.wrap (y42.2.2.2.2.2.2.2.1 - 1)), ())))
 | .inr y36 =>
 some (.inr (y36.1, y36.2.1, y36.2.2.1, y36.2.2.2.1, y36.2.2.2.2.1, y36.2.2.2.2.2.1, y36.2.2.2.2.2.2.1, ()))))
def normal3_s9 (a0 : List Int) (a3 : List Int) (a4 : Int) (a5 : Int) (a6 : List Int) (a7 : Int) : Option ((List Int × List Int × Int × Int × List Int × Int × Unit) ⊕ (List Int × List Int × Int × Int × Unit)) :=
 ((show Option ((List Int × List Int × Int × Int × List Int × Int × Unit) ⊕ (List Int × List Int × Int × Int × Unit)) from
 bif (decide (a7 < (a6.length : Int))) then
 some (.inl (a0, a3, a4, a5, a6, a7, ()))
 else
 some (.inr (a0, a3, a4, a5, ()))).bind fun y11 =>
 (match y11 with
 | .inl y11 =>
 ((show Option (List Int × List Int × Int × Int × List Int × Int × Unit) from
 ((lk y11.2.2.2.2.1 y11.2.2.2.2.2.1).bind fun _x13 =>
 ((lk y11.2.2.2.2.1 y11.2.2.2.2.2.1).bind fun x14 =>
 ((class2 x14).bind fun r15 =>
 ((lk y11.2.2.2.2.1 y11.2.2.2.2.2.1).bind fun _x16 =>
 ((lk y11.2.2.2.2.1 y11.2.2.2.2.2.1).bind fun x17 =>
 bif (roomOk (y11.2.1.length + [x17].length) 4) then
 ((show Option ((List Int × List Int × Int × Int × List Int × Int × Unit) ⊕ (List Int × List Int × Int × Int × List Int × Int × Int × Unit)) from
 bif (r15.2.1 == 0) then
 some (.inl (y11.1, (y11.2.1 ++ [x17]), ((y11.2.1 ++ [x17]).length : Int), y11.2.2.2.1, y11.2.2.2.2.1, y11.2.2.2.2.2.1, ()))
 else
 some (.inr (y11.1, (y11.2.1 ++ [x17]), y11.2.2.1, y11.2.2.2.1, y11.2.2.2.2.1, y11.2.2.2.2.2.1, r15.2.1, ()))).bind fun y19 =>
 (match y19 with
 | .inl y19 =>
 some (y19.1, y19.2.1, y19.2.2.1, y19.2.2.2.1, y19.2.2.2.2.1, y19.2.2.2.2.2.1, ())
 | .inr y19 =>
 ((show Option (List Int × List Int × Int × Int × List Int × Int × Int × Unit) from
 ((iterN (fun x => normal3_s22 x.1 x.2.1 x.2.2.1 x.2.2.2.1 x.2.2.2.2.1 x.2.2.2.2.2.1 x.2.2.2.2.2.2.1 x.2.2.2.2.2.2.2.1 x.2.2.2.2.2.2.2.2.1) fuN (y19.1, y19.2.1, y19.2.2.1, y19.2.2.2.1, y19.2.2.2.2.1, y19.2.2.2.2.2.1, y19.2.2.2.2.2.2.1, y19.2.2.1, (IntKind.i64.wrap ((y19.2.1.length : Int) - 1)), ())).bind fun y30 =>
 some (y30.1, y30.2.1, y30.2.2.1, y30.2.2.2.1, y30.2.2.2.2.1, y30.2.2.2.2.2.1, y30.2.2.2.2.2.2.1, ()))).bind fun y31 =>
 ((show Option (List Int × List Int × Int × Int × List Int × Int × Int × Unit) from
 ((iterN (fun x => normal3_s34 x.1 x.2.1 x.2.2.1 x.2.2.2.1 x.2.2.2.2.1 x.2.2.2.2.2.1 x.2.2.2.2.2.2.1 x.2.2.2.2.2.2.2.1) fuN (y31.1, y31.2.1, y31.2.2.1, y31.2.2.2.1, y31.2.2.2.2.1, y31.2.2.2.2.2.1, y31.2.2.2.2.2.2.1, (IntKind.i64.wrap ((y31.2.1.length : Int) - 1)), ())).bind fun y43 =>
 some (y43.1, y43.2.1, y43.2.2.1, y43.2.2.2.1, y43.2.2.2.2.1, y43.2.2.2.2.2.1, y43.2.2.2.2.2.2.1, ()))).bind fun y44 =>
 ((lk y44.2.2.2.2.1 y44.2.2.2.2.2.1).bind fun _x45 =>
 ((lk y44.2.2.2.2.1 y44.2.2.2.2.2.1).bind fun x46 =>
 ((lk y44.2.1 y44.2.2.2.2.2.2.1).bind fun _x47 =>
 ((lk y44.2.1 y44.2.2.2.2.2.2.1).bind fun x48 =>
 some (y44.1, (y44.2.1.set y44.2.2.2.2.2.2.1.toNat x46), y44.2.2.1, y44.2.2.2.1, y44.2.2.2.2.1, y44.2.2.2.2.2.1, ())))))))))
 else none)))))).bind fun y49 =>
 some (.inl (y49.1, y49.2.1, y49.2.2.1, y49.2.2.2.1, y49.2.2.2.2.1, (IntKind.i64.wrap (y49.2.2.2.2.2.1 + 1)), ())))
 | .inr y11 =>
 some (.inr (y11.1, y11.2.1, y11.2.2.1, y11.2.2.2.1, ()))))
def normal3_s2 (a0 : List Int) (a3 : List Int) (a4 : Int) (a5 : Int) : Option ((List Int × List Int × Int × Int × Unit) ⊕ (List Int × Unit)) :=
 ((show Option ((List Int × List Int × Int × Int × Unit) ⊕ (List Int × Unit)) from
 bif (decide (a5 < (a0.length : Int))) then
 some (.inl (a0, a3, a4, a5, ()))
 else
 some (.inr (a3, ()))).bind fun y4 =>
 (match y4 with
 | .inl y4 =>
 ((show Option (List Int × List Int × Int × Int × Unit) from
 ((lk y4.1 y4.2.2.2.1).bind fun x6 =>
 ((decomp2 x6).bind fun r7 =>
 ((iterN (fun x => normal3_s9 x.1 x.2.1 x.2.2.1 x.2.2.2.1 x.2.2.2.2.1 x.2.2.2.2.2.1) fuN (y4.1, y4.2.1, y4.2.2.1, y4.2.2.2.1, r7.2.1, (0 : Int), ())).bind fun y50 =>
 some (y50.1, y50.2.1, y50.2.2.1, y50.2.2.2.1, ()))))).bind fun y51 =>
 some (.inl (y51.1, y51.2.1, y51.2.2.1, (IntKind.i64.wrap (y51.2.2.2.1 + 1)), ())))
 | .inr y4 =>
 some (.inr (y4.1, ()))))
def normal3 (p0 : List Int) : Option (Unit × List Int × Unit) :=
 ((iterN (fun x => normal3_s2 x.1 x.2.1 x.2.2.1 x.2.2.2.1) fuN (p0, ([] : List Int), (0 : Int), (0 : Int), ())).bind fun y52 =>
 some ((), y52.1, ()))
def normal3_c : Ctr := ⟨[.ro (.slice yi32)], [.own (.vec yi32)], fun v => normal3 v.1⟩
def normal3_h : zH := fun i => if i = 4 then zL [(0, .slice yi32), (3, .vec yi32), (4, yi64), (5, yi64)] [zX 0 [(3, .vec yi32)]] else if i = 1060005 then zC [zN [(0, .slice yi32), (3, .vec yi32), (4, yi64), (5, yi64)]] else if i = 8 then zL [(0, .slice yi32), (3, .vec yi32), (4, yi64), (5, yi64), (6, .vec yi32), (7, yi64)] [zX 2 [(0, .slice yi32), (3, .vec yi32), (4, yi64), (5, yi64)]] else if i = 1100009 then zC [zN [(0, .slice yi32), (3, .vec yi32), (4, yi64), (5, yi64), (6, .vec yi32), (7, yi64)]] else if i = 1200024 then zC [zN [(0, .slice yi32), (3, .vec yi32), (4, yi64), (5, yi64), (6, .vec yi32), (7, yi64), (9, yi64)]] else if i = 21 then zL [(0, .slice yi32), (3, .vec yi32), (4, yi64), (5, yi64), (6, .vec yi32), (7, yi64), (9, yi64), (12, yi64)] [zX 6 [(0, .slice yi32), (3, .vec yi32), (4, yi64), (5, yi64), (6, .vec yi32), (7, yi64), (9, yi64)]] else if i = 1230022 then zC [zN [(0, .slice yi32), (3, .vec yi32), (4, yi64), (5, yi64), (6, .vec yi32), (7, yi64), (9, yi64), (12, yi64)]] else if i = 1210023 then zC [zN [(0, .slice yi32), (3, .vec yi32), (4, yi64), (5, yi64), (6, .vec yi32), (7, yi64), (9, yi64), (12, yi64)], zX 6 [(0, .slice yi32), (3, .vec yi32), (4, yi64), (5, yi64), (6, .vec yi32), (7, yi64), (9, yi64)]] else if i = 1150020 then zC [zN [(0, .slice yi32), (3, .vec yi32), (4, yi64), (5, yi64), (6, .vec yi32), (7, yi64), (9, yi64)]] else if i = 15 then zL [(0, .slice yi32), (3, .vec yi32), (4, yi64), (5, yi64), (6, .vec yi32), (7, yi64), (8, yi64), (9, yi64), (10, yi64)] [zX 4 [(0, .slice yi32), (3, .vec yi32), (4, yi64), (5, yi64), (6, .vec yi32), (7, yi64), (9, yi64)]] else if i = 1150016 then zC [zN [(0, .slice yi32), (3, .vec yi32), (4, yi64), (5, yi64), (6, .vec yi32), (7, yi64), (8, yi64), (9, yi64), (10, yi64)], zX 4 [(0, .slice yi32), (3, .vec yi32), (4, yi64), (5, yi64), (6, .vec yi32), (7, yi64), (9, yi64)]] else if i = 1120014 then zC [zX 3 [(0, .slice yi32), (3, .vec yi32), (4, yi64), (5, yi64), (6, .vec yi32), (7, yi64)], zN [(0, .slice yi32), (3, .vec yi32), (4, yi64), (5, yi64), (6, .vec yi32), (7, yi64), (8, yi64)]] else if i = 1080010 then zC [zN [(0, .slice yi32), (3, .vec yi32), (4, yi64), (5, yi64), (6, .vec yi32), (7, yi64)], zX 2 [(0, .slice yi32), (3, .vec yi32), (4, yi64), (5, yi64)]] else if i = 1040006 then zC [zN [(0, .slice yi32), (3, .vec yi32), (4, yi64), (5, yi64)], zX 0 [(3, .vec yi32)]] else none
def normal3_g : zG := [(109, decomp2_c), (110, class2_c)]
theorem normal3_eq : EqB normal3_c normal3_g normal3_h 91 Tryz.f95 [2] [] := fun v => by kernel_rfl
def cut4_s12 (a0 : List (Int × Int × Int)) (a3 : List (List UInt8 × Int × Int)) (a4 : Int) (a5 : Int) (a6 : List Int) (a7 : Int) : Option ((List (Int × Int × Int) × List (List UInt8 × Int × Int) × Int × Int × List Int × Int × Unit) ⊕ (List (Int × Int × Int) × List (List UInt8 × Int × Int) × Int × Int × List Int × Unit)) :=
 ((show Option ((List (Int × Int × Int) × List (List UInt8 × Int × Int) × Int × Int × List Int × Int × Unit) ⊕ (List (Int × Int × Int) × List (List UInt8 × Int × Int) × Int × Int × List Int × Unit)) from
 bif (decide (a7 < a5)) then
 some (.inl (a0, a3, a4, a5, a6, a7, ()))
 else
 some (.inr (a0, a3, a4, a5, a6, ()))).bind fun y14 =>
 (match y14 with
 | .inl y14 =>
 ((show Option (List (Int × Int × Int) × List (List UInt8 × Int × Int) × Int × Int × List Int × Int × Unit) from
 ((lk y14.1 y14.2.2.2.2.2.1).bind fun x16 =>
 bif (roomOk (y14.2.2.2.2.1.length + [x16.1].length) 4) then
 some (y14.1, y14.2.1, y14.2.2.1, y14.2.2.2.1, (y14.2.2.2.2.1 ++ [x16.1]), y14.2.2.2.2.2.1, ())
 else none)).bind fun y17 =>
 some (.inl (y17.1, y17.2.1, y17.2.2.1, y17.2.2.2.1, y17.2.2.2.2.1, (IntKind.i64.wrap (y17.2.2.2.2.2.1 + 1)), ())))
 | .inr y14 =>
 some (.inr (y14.1, y14.2.1, y14.2.2.1, y14.2.2.2.1, y14.2.2.2.2.1, ()))))
def cut4_s2 (a0 : List (Int × Int × Int)) (a3 : List (List UInt8 × Int × Int)) (a4 : Int) (a5 : Int) : Option ((List (Int × Int × Int) × List (List UInt8 × Int × Int) × Int × Int × Unit) ⊕ (List (List UInt8 × Int × Int) × Unit)) :=
 ((show Option ((List (Int × Int × Int) × List (List UInt8 × Int × Int) × Int × Int × Unit) ⊕ (List (List UInt8 × Int × Int) × Unit)) from
 bif (decide (a5 ≤ (a0.length : Int))) then
 some (.inl (a0, a3, a4, a5, ()))
 else
 some (.inr (a3, ()))).bind fun y4 =>
 (match y4 with
 | .inl y4 =>
 ((show Option (List (Int × Int × Int) × List (List UInt8 × Int × Int) × Int × Int × Unit) from
 ((show Option ((List (Int × Int × Int) × List (List UInt8 × Int × Int) × Int × Int × Unit) ⊕ (List (Int × Int × Int) × List (List UInt8 × Int × Int) × Int × Int × Unit)) from
 bif (decide (y4.2.2.2.1 < (y4.1.length : Int))) then
 ((lk y4.1 y4.2.2.2.1).bind fun x7 =>
 ((opens2 x7.1).bind fun r8 =>
 bif (!r8.2.1) then
 some (.inl (y4.1, y4.2.1, y4.2.2.1, y4.2.2.2.1, ()))
 else
 some (.inr (y4.1, y4.2.1, y4.2.2.1, y4.2.2.2.1, ()))))
 else
 some (.inr (y4.1, y4.2.1, y4.2.2.1, y4.2.2.2.1, ()))).bind fun y9 =>
 (match y9 with
 | .inl y9 =>
 some (y9.1, y9.2.1, y9.2.2.1, y9.2.2.2.1, ())
 | .inr y9 =>
 ((show Option (List (Int × Int × Int) × List (List UInt8 × Int × Int) × Int × Int × List Int × Unit) from
 ((iterN (fun x => cut4_s12 x.1 x.2.1 x.2.2.1 x.2.2.2.1 x.2.2.2.2.1 x.2.2.2.2.2.1) fuN (y9.1, y9.2.1, y9.2.2.1, y9.2.2.2.1, ([] : List Int), y9.2.2.1, ())).bind fun y18 =>
 some (y18.1, y18.2.1, y18.2.2.1, y18.2.2.2.1, y18.2.2.2.2.1, ()))).bind fun y19 =>
 ((normal3 y19.2.2.2.2.1).bind fun r20 =>
 ((encode1 r20.2.1).bind fun r21 =>
 ((lk y19.1 y19.2.2.1).bind fun x22 =>
 ((lk y19.1 (IntKind.i64.wrap (y19.2.2.2.1 - 1))).bind fun x23 =>
 ((lk y19.1 (IntKind.i64.wrap (y19.2.2.2.1 - 1))).bind fun x24 =>
 bif (roomOk (y19.2.1.length + [((s8u r21.2.1), x22.2.1, (IntKind.i64.wrap (x23.2.1 + x24.2.2)))].length) 32) then
 let l25 := (y19.2.1 ++ [((s8u r21.2.1), x22.2.1, (IntKind.i64.wrap (x23.2.1 + x24.2.2)))])
 some (y19.1, l25, y19.2.2.2.1, y19.2.2.2.1, ())
 else none))))))))).bind fun y26 =>
 some (.inl (y26.1, y26.2.1, y26.2.2.1, (IntKind.i64.wrap (y26.2.2.2.1 + 1)), ())))
 | .inr y4 =>
 some (.inr (y4.1, ()))))
def cut4 (p0 : List (Int × Int × Int)) : Option (Unit × List (List UInt8 × Int × Int) × Unit) :=
 ((iterN (fun x => cut4_s2 x.1 x.2.1 x.2.2.1 x.2.2.2.1) fuN (p0, ([] : List (List UInt8 × Int × Int)), (0 : Int), (1 : Int), ())).bind fun y27 =>
 some ((), y27.1, ()))
def cut4_c : Ctr := ⟨[.ro (.slice y8)], [.own (.vec y9)], fun v => cut4 v.1⟩
def cut4_h : zH := fun i => if i = 4 then zL [(0, .slice y8), (3, .vec y9), (4, yi64), (5, yi64)] [zX 0 [(3, .vec y9)]] else if i = 1060005 then zC [zN [(0, .slice y8), (3, .vec y9), (4, yi64), (5, yi64)]] else if i = 1080012 then zC [zN [(0, .slice y8), (3, .vec y9), (4, yi64), (5, yi64), (6, .vec yi32)]] else if i = 9 then zL [(0, .slice y8), (3, .vec y9), (4, yi64), (5, yi64), (6, .vec yi32), (7, yi64)] [zX 2 [(0, .slice y8), (3, .vec y9), (4, yi64), (5, yi64), (6, .vec yi32)]] else if i = 1110010 then zC [zN [(0, .slice y8), (3, .vec y9), (4, yi64), (5, yi64), (6, .vec yi32), (7, yi64)]] else if i = 1090011 then zC [zN [(0, .slice y8), (3, .vec y9), (4, yi64), (5, yi64), (6, .vec yi32), (7, yi64)], zX 2 [(0, .slice y8), (3, .vec y9), (4, yi64), (5, yi64), (6, .vec yi32)]] else if i = 1060007 then zC [zX 1 [(0, .slice y8), (3, .vec y9), (4, yi64), (5, yi64)], zN [(0, .slice y8), (3, .vec y9), (4, yi64), (5, yi64)]] else if i = 1040006 then zC [zN [(0, .slice y8), (3, .vec y9), (4, yi64), (5, yi64)], zX 0 [(3, .vec y9)]] else none
def cut4_g : zG := [(93, encode1_c), (94, opens2_c), (95, normal3_c)]
theorem cut4_eq : EqB cut4_c cut4_g cut4_h 69 Tryz.f82 [2] [] := fun v => by kernel_rfl
def all4 (p0 : List Int) : Option (Unit × List (List UInt8 × Int × Int) × Unit) :=
 ((decode1 p0 false).bind fun r1 =>
 ((cut4 r1.2.1).bind fun r2 =>
 some ((), r2.2.1, ())))
def all4_c : Ctr := ⟨[.ro (.slice yu8)], [.own (.vec y9)], fun v => all4 v.1⟩
def all4_g : zG := [(83, decode1_c), (82, cut4_c)]
theorem all4_eq : EqB all4_c all4_g h0 6 Tryz.f61 [2] [] := fun v => by kernel_rfl
def length4 (p0 : (List UInt8 × Int × Int)) : Option (Unit × Int × Unit) :=
 ((runes1 (u8s p0.1)).bind fun r1 =>
 some ((), (r1.2.1.length : Int), ()))
def length4_c : Ctr := ⟨[.ro y9], [.val yi64], fun v => length4 v.1⟩
def length4_g : zG := [(78, runes1_c)]
theorem length4_eq : EqB length4_c length4_g h0 8 Tryz.f81 [2] [] := fun v => by kernel_rfl
def good4_s3 (a0 : List (List UInt8 × Int × Int)) (a1 : Int) (a6 : Int) : Option ((List (List UInt8 × Int × Int) × Int × Int × Unit) ⊕ ((List (List UInt8 × Int × Int) × Bool × Unit) ⊕ (List (List UInt8 × Int × Int) × Unit))) :=
 ((show Option ((List (List UInt8 × Int × Int) × Int × Int × Unit) ⊕ (List (List UInt8 × Int × Int) × Unit)) from
 bif (decide (a6 < (a0.length : Int))) then
 some (.inl (a0, a1, a6, ()))
 else
 some (.inr (a0, ()))).bind fun y5 =>
 (match y5 with
 | .inl y5 =>
 ((show Option ((List (List UInt8 × Int × Int) × Bool × Unit) ⊕ (List (List UInt8 × Int × Int) × Int × Int × Unit)) from
 ((lk y5.1 y5.2.2.1).bind fun x7 =>
 ((length4 x7).bind fun r8 =>
 bif (decide (r8.2.1 > y5.2.1)) then
 bif (inB (0 : Int) y5.2.2.1 y5.1.length) then
 some (.inl ((cut y5.1 (0 : Int) y5.2.2.1), true, ()))
 else none
 else
 some (.inr (y5.1, y5.2.1, y5.2.2.1, ()))))).bind fun y9 =>
 (match y9 with
 | .inl y9 =>
 some (.inr (.inl (y9.1, y9.2.1, ())))
 | .inr y9 =>
 some (.inl (y9.1, y9.2.1, (IntKind.i64.wrap (y9.2.2.1 + 1)), ()))))
 | .inr y5 =>
 some (.inr (.inr (y5.1, ())))))
def good4 (p0 : List (List UInt8 × Int × Int)) (p1 : Int) : Option (Unit × List (List UInt8 × Int × Int) × Bool × Unit) :=
 ((show Option ((List (List UInt8 × Int × Int) × Bool × Unit) ⊕ (List (List UInt8 × Int × Int) × Unit)) from
 ((iterN (fun x => good4_s3 x.1 x.2.1 x.2.2.1) fuN (p0, p1, (0 : Int), ())).bind fun y10 =>
 (match y10 with
 | .inl y10 =>
 some (.inl (y10.1, y10.2.1, ()))
 | .inr y10 =>
 some (.inr (y10.1, ()))))).bind fun y11 =>
 (match y11 with
 | .inl y11 =>
 some ((), y11.1, y11.2.1, ())
 | .inr y11 =>
 some ((), y11.1, false, ())))
def good4_c : Ctr := ⟨[.ro (.slice y9), .ro yi64], [.val (.slice y9), .val .bool], fun v => good4 v.1 v.2.1⟩
def good4_h : zH := fun i => if i = 1010006 then zC [zR [(4, .slice y9), (5, .bool)], zN [(0, .slice y9)]] else if i = 2 then zL [(0, .slice y9), (1, yi64), (6, yi64)] [zR [(4, .slice y9), (5, .bool)], zX 0 [(0, .slice y9)]] else if i = 1040003 then zC [zR [(4, .slice y9), (5, .bool)], zN [(0, .slice y9), (1, yi64), (6, yi64)]] else if i = 1020004 then zC [zN [(0, .slice y9), (1, yi64), (6, yi64)], zX 0 [(0, .slice y9)]] else none
def good4_g : zG := [(81, length4_c)]
theorem good4_eq : EqB good4_c good4_g good4_h 24 Tryz.f60 [4, 5] [] := fun v => by kernel_rfl
def split4 (p0 : List Int) (p1 : Int) : Option (Unit × List (List UInt8 × Int × Int) × Int × Unit) :=
 ((show Option ((Unit × Int × Unit) ⊕ (List Int × Int × Unit)) from
 bif (decide (p1 < 1)) then
 some (.inl ((), (1 : Int), ()))
 else
 bif (decide (p1 > 64)) then
 some (.inl ((), (1 : Int), ()))
 else
 some (.inr (p0, p1, ()))).bind fun y2 =>
 (match y2 with
 | .inl y2 =>
 some ((), ([] : List (List UInt8 × Int × Int)), y2.2.1, ())
 | .inr y2 =>
 ((all4 y2.1).bind fun r3 =>
 ((good4 r3.2.1 y2.2.1).bind fun r4 =>
 ((show Option ((List (List UInt8 × Int × Int) × Int × Unit) ⊕ (List (List UInt8 × Int × Int) × Unit)) from
 bif r4.2.2.1 then
 some (.inl (r4.2.1, (6 : Int), ()))
 else
 some (.inr (r4.2.1, ()))).bind fun y6 =>
 (match y6 with
 | .inl y6 =>
 some ((), y6.1, y6.2.1, ())
 | .inr y6 =>
 some ((), y6.1, (0 : Int), ())))))))
def split4_c : Ctr := ⟨[.ro (.slice yu8), .ro yi64], [.val (.slice y9), .val yi64], fun v => split4 v.1 v.2.1⟩
def split4_h : zH := fun i => if i = 1040006 then zC [zR [(4, .slice y9), (5, yi64)], zN [(6, .slice y9)]] else if i = 1010003 then zC [zR [(4, .nils), (5, yi64)], zN [(0, .slice yu8), (1, yi64)]] else none
def split4_g : zG := [(61, all4_c), (60, good4_c)]
theorem split4_eq : EqB split4_c split4_g split4_h 24 Tryz.f31 [4, 5] [] := fun v => by kernel_rfl
def texts4_s2 (a0 : List (List UInt8 × Int × Int)) (a3 : tW) (a4 : Int) : Option ((List (List UInt8 × Int × Int) × tW × Int × Unit) ⊕ (tW × Unit)) :=
 ((show Option ((List (List UInt8 × Int × Int) × tW × Int × Unit) ⊕ (tW × Unit)) from
 bif (decide (a4 < (a0.length : Int))) then
 some (.inl (a0, a3, a4, ()))
 else
 some (.inr (a3, ()))).bind fun y4 =>
 (match y4 with
 | .inl y4 =>
 ((show Option (List (List UInt8 × Int × Int) × tW × Int × Unit) from
 ((lk y4.1 y4.2.2.1).bind fun x6 =>
 bif (roomOk (y4.2.1.length + [x6.1].length) 16) then
 some (y4.1, (y4.2.1 ++ [x6.1]), y4.2.2.1, ())
 else none)).bind fun y7 =>
 some (.inl (y7.1, y7.2.1, (IntKind.i64.wrap (y7.2.2.1 + 1)), ())))
 | .inr y4 =>
 some (.inr (y4.1, ()))))
def texts4 (p0 : List (List UInt8 × Int × Int)) : Option (Unit × tW × Unit) :=
 ((iterN (fun x => texts4_s2 x.1 x.2.1 x.2.2.1) fuN (p0, ([] : tW), (0 : Int), ())).bind fun y8 =>
 some ((), y8.1, ()))
def texts4_c : Ctr := ⟨[.ro (.slice y9)], [.own (.vec .str)], fun v => texts4 v.1⟩
def texts4_h : zH := fun i => if i = 3 then zL [(0, .slice y9), (3, .vec .str), (4, yi64)] [zX 0 [(3, .vec .str)]] else if i = 1050004 then zC [zN [(0, .slice y9), (3, .vec .str), (4, yi64)]] else if i = 1030005 then zC [zN [(0, .slice y9), (3, .vec .str), (4, yi64)], zX 0 [(3, .vec .str)]] else none
theorem texts4_eq : EqB texts4_c [] texts4_h 20 Tryz.f32 [2] [] := fun v => by kernel_rfl
def here7 (p0 : Option tT) : Option (Unit × List UInt8 × Unit) :=
 ((show Option ((List UInt8 × Unit) ⊕ (Option tT × Unit)) from
 ((p0).bind fun q2 =>
 ((p0).bind fun q3 =>
 bif (decide (q2.2.1 ≥ (q3.1.length : Int))) then
 some (.inl (([] : List UInt8), ()))
 else
 ((p0).bind fun q4 =>
 bif (q4.2.2.1 != 0) then
 some (.inl (([] : List UInt8), ()))
 else
 some (.inr (p0, ())))))).bind fun y5 =>
 (match y5 with
 | .inl y5 =>
 some ((), y5.1, ())
 | .inr y5 =>
 ((y5.1).bind fun q6 =>
 ((y5.1).bind fun q7 =>
 ((lk q6.1 q7.2.1).bind fun x8 =>
 some ((), x8, ()))))))
def here7_c : Ctr := ⟨[.ro (.ptr (.st (.pair s1 (.pair yi64 y3))))], [.val .str], fun v => here7 v.1⟩
def here7_h : zH := fun i => if i = 1010003 then zC [zR [(2, .str)], zN [(0, .ptr (.st (.pair s1 (.pair yi64 y3))))]] else none
theorem here7_eq : EqB here7_c [] here7_h 30 Tryz.f63 [2] [] := fun v => by kernel_rfl
def fail7 (p0 : tT) (p1 : Int) (p2 : Int) : Option (tT × Unit) :=
 bif (p0.2.2.1 == 0) then
 some ((p0.1, p0.2.1, p2, p1), ())
 else
 some (p0, ())
def fail7_c : Ctr := ⟨[.mu y4, .ro yi64, .ro yi64], [], fun v => fail7 v.1 v.2.1 v.2.2.1⟩
theorem fail7_eq : EqB fail7_c [] h0 19 Tryz.f34 [] [] := fun v => by kernel_rfl
def join7_s2 (a0 : tG) (a1 : tG) (a5 : Int) : Option ((tG × tG × Int × Unit) ⊕ (tG × Unit)) :=
 ((show Option ((tG × tG × Int × Unit) ⊕ (tG × Unit)) from
 bif (decide (a5 < (a1.length : Int))) then
 some (.inl (a0, a1, a5, ()))
 else
 some (.inr (a0, ()))).bind fun y4 =>
 (match y4 with
 | .inl y4 =>
 ((show Option (tG × tG × Int × Unit) from
 ((lk y4.2.1 y4.2.2.1).bind fun x6 =>
 bif (roomOk (y4.1.length + [x6].length) 96) then
 some ((y4.1 ++ [x6]), y4.2.1, y4.2.2.1, ())
 else none)).bind fun y7 =>
 some (.inl (y7.1, y7.2.1, (IntKind.i64.wrap (y7.2.2.1 + 1)), ())))
 | .inr y4 =>
 some (.inr (y4.1, ()))))
def join7 (p0 : tG) (p1 : tG) : Option (Unit × tG × Unit) :=
 ((iterN (fun x => join7_s2 x.1 x.2.1 x.2.2.1) fuN (p0, p1, (0 : Int), ())).bind fun y8 =>
 some ((), y8.1, ()))
def join7_c : Ctr := ⟨[.own (.vec y0), .ro s0], [.own (.vec y0)], fun v => join7 v.1 v.2.1⟩
def join7_h : zH := fun i => if i = 2 then zL [(0, .vec y0), (1, s0), (5, yi64)] [zX 0 [(0, .vec y0)]] else if i = 1040003 then zC [zN [(0, .vec y0), (1, s0), (5, yi64)]] else if i = 1020004 then zC [zN [(0, .vec y0), (1, s0), (5, yi64)], zX 0 [(0, .vec y0)]] else none
theorem join7_eq : EqB join7_c [] join7_h 20 Tryz.f64 [4] [] := fun v => by kernel_rfl
def sign7 (p0 : List UInt8) : Option (Unit × Bool × Unit) :=
 ((show Option (Bool × Unit) from
 bif (p0 == ([124] : List UInt8)) then
 some ((p0 == ([124] : List UInt8)), ())
 else
 bif (p0 == ([40] : List UInt8)) then
 some ((p0 == ([40] : List UInt8)), ())
 else
 bif (p0 == ([41] : List UInt8)) then
 some ((p0 == ([41] : List UInt8)), ())
 else
 bif (p0 == ([91] : List UInt8)) then
 some ((p0 == ([91] : List UInt8)), ())
 else
 bif (p0 == ([93] : List UInt8)) then
 some ((p0 == ([93] : List UInt8)), ())
 else
 bif (p0 == ([42] : List UInt8)) then
 some ((p0 == ([42] : List UInt8)), ())
 else
 bif (p0 == ([43] : List UInt8)) then
 some ((p0 == ([43] : List UInt8)), ())
 else
 bif (p0 == ([63] : List UInt8)) then
 some ((p0 == ([63] : List UInt8)), ())
 else
 bif (p0 == ([123] : List UInt8)) then
 some ((p0 == ([123] : List UInt8)), ())
 else
 bif (p0 == ([125] : List UInt8)) then
 some ((p0 == ([125] : List UInt8)), ())
 else
 bif (p0 == ([94] : List UInt8)) then
 some ((p0 == ([94] : List UInt8)), ())
 else
 bif (p0 == ([36] : List UInt8)) then
 some ((p0 == ([36] : List UInt8)), ())
 else
 bif (p0 == ([46] : List UInt8)) then
 some ((p0 == ([46] : List UInt8)), ())
 else
 some ((p0 == ([92] : List UInt8)), ())).bind fun y2 =>
 bif y2.1 then
 some ((), true, ())
 else
 some ((), false, ()))
def sign7_c : Ctr := ⟨[.ro .str], [.val .bool], fun v => sign7 v.1⟩
def sign7_h : zH := fun i => if i = 1020016 then zC [zN [(4, .bool)]] else none
theorem sign7_eq : EqB sign7_c [] sign7_h 19 Tryz.f119 [2] [] := fun v => by kernel_rfl
def of6 (p0 : List UInt8) : Option (Unit × tS × Unit) :=
 ((runes1 (u8s p0)).bind fun r1 =>
 ((show Option (((Unit × Unit × Unit) × Unit) ⊕ (List UInt8 × (Unit × Unit × Unit) × List Int × Unit)) from
 bif ((r1.2.1.length : Int) == 0) then
 some (.inl (((), (), ()), ()))
 else
 ((good6 p0).bind fun r3 =>
 bif (!r3.2.1) then
 some (.inl (((), (), ()), ()))
 else
 some (.inr (p0, ((), (), ()), r1.2.1, ())))).bind fun y4 =>
 (match y4 with
 | .inl y4 =>
 some ((), (([] : tC), ([] : tC), ([] : tW)), ())
 | .inr y4 =>
 ((show Option (((tC × Unit × Unit) × Unit) ⊕ (List UInt8 × (Unit × Unit × Unit) × Unit)) from
 bif ((y4.2.2.1.length : Int) == 1) then
 ((lk y4.2.2.1 (0 : Int)).bind fun _x6 =>
 ((lk y4.2.2.1 (0 : Int)).bind fun x7 =>
 ((lk y4.2.2.1 (0 : Int)).bind fun _x8 =>
 ((lk y4.2.2.1 (0 : Int)).bind fun x9 =>
 some (.inl (([(x7, x9)], (), ()), ()))))))
 else
 some (.inr (y4.1, ((), (), ()), ()))).bind fun y10 =>
 (match y10 with
 | .inl y10 =>
 some ((), (y10.1.1, ([] : tC), ([] : tW)), ())
 | .inr y10 =>
 some ((), (([] : tC), ([] : tC), [y10.1]), ()))))))
def of6_c : Ctr := ⟨[.ro .str], [.val y5], fun v => of6 v.1⟩
def of6_h : zH := fun i => if i = 1040006 then zC [zR [(2, .bx (.st (.pair (.vec y2) (.pair .nils .nils))))], zN [(0, .str), (2, .bx (.st (.pair .nils (.pair .nils .nils))))]] else if i = 1020004 then zC [zR [(2, .bx (.st (.pair .nils (.pair .nils .nils))))], zN [(0, .str), (2, .bx (.st (.pair .nils (.pair .nils .nils)))), (3, .vec yi32)]] else none
def of6_g : zG := [(78, runes1_c), (77, good6_c)]
theorem of6_eq : EqB of6_c of6_g of6_h 31 Tryz.f117 [31] [(2, 70)] := fun v => by kernel_rfl
def set7 (p0 : tS) : Option (Unit × tG × Unit) :=
 some ((), [((2 : Int), p0, (0 : Int), (0 : Int))], ())
def set7_c : Ctr := ⟨[.ro y5], [.own (.vec y0)], fun v => set7 v.1⟩
theorem set7_eq : EqB set7_c [] h0 6 Tryz.f113 [2] [] := fun v => by kernel_rfl
def atom7 (choiceR : StT → Int → Option (StT × List NodeT × Unit)) (p0 : tT) (p1 : Int) : Option (tT × tG × Unit) :=
 ((here7 (some p0)).bind fun r1 =>
 ((show Option ((tT × tG × Unit) ⊕ (tT × List UInt8 × Unit)) from
 bif (r1.2.1 == ([40] : List UInt8)) then
 ((show Option ((tT × Unit × Unit) ⊕ (tT × Int × Unit)) from
 bif (p1 == 32) then
 ((fail7 (p0.1, (IntKind.i64.wrap (p0.2.1 + 1)), p0.2.2) p0.2.1 (4 : Int)).bind fun r4 =>
 some (.inl (r4.1, (), ())))
 else
 some (.inr ((p0.1, (IntKind.i64.wrap (p0.2.1 + 1)), p0.2.2), p1, ()))).bind fun y5 =>
 (match y5 with
 | .inl y5 =>
 some (.inl (y5.1, ([] : tG), ()))
 | .inr y5 =>
 ((choiceR y5.1 (IntKind.i64.wrap (y5.2.1 + 1))).bind fun r6 =>
 ((show Option (tT × tG × Unit) from
 ((here7 (some r6.1)).bind fun r8 =>
 bif (!(r8.2.1 == ([41] : List UInt8))) then
 ((fail7 r6.1 r6.1.2.1 (2 : Int)).bind fun r9 =>
 some (r9.1, r6.2.1, ()))
 else
 some (r6.1, r6.2.1, ()))).bind fun y10 =>
 some (.inl ((y10.1.1, (IntKind.i64.wrap (y10.1.2.1 + 1)), y10.1.2.2), y10.2.1, ()))))))
 else
 bif (r1.2.1 == ([46] : List UInt8)) then
 ((x_all6).bind fun r11 =>
 ((set7 r11.2.1).bind fun r12 =>
 some (.inl ((p0.1, (IntKind.i64.wrap (p0.2.1 + 1)), p0.2.2), r12.2.1, ()))))
 else
 bif (r1.2.1 == ([91] : List UInt8)) then
 ((x_class7 (p0.1, (IntKind.i64.wrap (p0.2.1 + 1)), p0.2.2)).bind fun r13 =>
 ((set7 r13.2.1).bind fun r14 =>
 some (.inl (r13.1, r14.2.1, ()))))
 else
 bif (r1.2.1 == ([92] : List UInt8)) then
 ((show Option ((tT × tG × Unit) ⊕ (tT × Unit)) from
 ((show Option (tT × Bool × Unit) from
 ((here7 (some (p0.1, (IntKind.i64.wrap (p0.2.1 + 1)), p0.2.2))).bind fun r17 =>
 bif (r17.2.1 == ([112] : List UInt8)) then
 some ((p0.1, (IntKind.i64.wrap (p0.2.1 + 1)), p0.2.2), true, ())
 else
 ((here7 (some (p0.1, (IntKind.i64.wrap (p0.2.1 + 1)), p0.2.2))).bind fun r18 =>
 some ((p0.1, (IntKind.i64.wrap (p0.2.1 + 1)), p0.2.2), (r18.2.1 == ([80] : List UInt8)), ())))).bind fun y19 =>
 bif y19.2.1 then
 ((x_cat7 y19.1).bind fun r20 =>
 ((set7 r20.2.1).bind fun r21 =>
 some (.inl (r20.1, r21.2.1, ()))))
 else
 some (.inr (y19.1, ())))).bind fun y22 =>
 (match y22 with
 | .inl y22 =>
 some (.inl (y22.1, y22.2.1, ()))
 | .inr y22 =>
 ((x_letter7 y22.1).bind fun r23 =>
 ((of6 r23.2.1).bind fun r24 =>
 ((set7 r24.2.1).bind fun r25 =>
 some (.inl (r23.1, r25.2.1, ())))))))
 else
 ((sign7 r1.2.1).bind fun r26 =>
 bif r26.2.1 then
 ((fail7 (p0.1, (IntKind.i64.wrap (p0.2.1 + 1)), p0.2.2) p0.2.1 (2 : Int)).bind fun r27 =>
 some (.inl (r27.1, ([] : tG), ())))
 else
 some (.inr ((p0.1, (IntKind.i64.wrap (p0.2.1 + 1)), p0.2.2), r1.2.1, ())))).bind fun y28 =>
 (match y28 with
 | .inl y28 =>
 some (y28.1, y28.2.1, ())
 | .inr y28 =>
 ((of6 y28.2.1).bind fun r29 =>
 ((set7 r29.2.1).bind fun r30 =>
 some (y28.1, r30.2.1, ()))))))
def atom7_c (choiceR : StT → Int → Option (StT × List NodeT × Unit)) : Ctr := ⟨[.mu y4, .ro yi64], [.own (.vec y0)], fun v => atom7 choiceR v.1 v.2.1⟩
def atom7_h : zH := fun i => if i = 1030023 then zC [zR [(0, y4), (4, .vec y0)], zN [(0, y4), (5, .str)]] else if i = 1170019 then zC [zR [(0, y4), (4, .vec y0)], zN [(0, y4)]] else if i = 1170018 then zC [zN [(0, y4), (71, .bool)]] else if i = 1080010 then zC [zN [(0, y4), (7, .vec y0)]] else if i = 1040007 then zC [zR [(0, y4), (4, .nils)], zN [(0, y4), (1, yi64)]] else none
def atom7_g (choiceR : StT → Int → Option (StT × List NodeT × Unit)) : List (Nat × Ctr) := [(63, here7_c), (34, fail7_c), (119, sign7_c), (117, of6_c), (113, set7_c), (114, x_all6_c), (115, x_class7_c), (116, x_cat7_c), (118, x_letter7_c), (33, (choiceR_cR choiceR))]
theorem atom7_eq (choiceR : StT → Int → Option (StT × List NodeT × Unit)) (v : PDen (atom7_c choiceR).ps) : semF tbl (gam (atom7_g choiceR)) atom7_h fuN 88 (bodyOf Tryz.f97) (atom7_c choiceR).ps (atom7_c choiceR).rs [4] [] v = (atom7_c choiceR).g v := by kernel_rfl
def part7 (choiceR : StT → Int → Option (StT × List NodeT × Unit)) (p0 : tT) (p1 : Int) : Option (tT × tG × Unit) :=
 ((show Option ((tT × tG × Unit) ⊕ (tT × Int × Unit)) from
 ((here7 (some p0)).bind fun r2 =>
 bif (r2.2.1 == ([94] : List UInt8)) then
 some (.inl ((p0.1, (IntKind.i64.wrap (p0.2.1 + 1)), p0.2.2), [((3 : Int), (([] : tC), ([] : tC), ([] : tW)), (0 : Int), (0 : Int))], ()))
 else
 some (.inr (p0, p1, ())))).bind fun y3 =>
 (match y3 with
 | .inl y3 =>
 some (y3.1, y3.2.1, ())
 | .inr y3 =>
 ((show Option ((tT × tG × Unit) ⊕ (tT × Int × Unit)) from
 ((here7 (some y3.1)).bind fun r5 =>
 bif (r5.2.1 == ([36] : List UInt8)) then
 some (.inl ((y3.1.1, (IntKind.i64.wrap (y3.1.2.1 + 1)), y3.1.2.2), [((4 : Int), (([] : tC), ([] : tC), ([] : tW)), (0 : Int), (0 : Int))], ()))
 else
 some (.inr (y3.1, y3.2.1, ())))).bind fun y6 =>
 (match y6 with
 | .inl y6 =>
 some (y6.1, y6.2.1, ())
 | .inr y6 =>
 ((atom7 choiceR y6.1 y6.2.1).bind fun r7 =>
 ((here7 (some r7.1)).bind fun r8 =>
 bif (r8.2.1 == ([42] : List UInt8)) then
 bif (roomOk (r7.2.1.length + [((7 : Int), (([] : tC), ([] : tC), ([] : tW)), (0 : Int), (-1 : Int))].length) 96) then
 let l9 := (r7.2.1 ++ [((7 : Int), (([] : tC), ([] : tC), ([] : tW)), (0 : Int), (-1 : Int))])
 some ((r7.1.1, (IntKind.i64.wrap (r7.1.2.1 + 1)), r7.1.2.2), l9, ())
 else none
 else
 bif (r8.2.1 == ([43] : List UInt8)) then
 bif (roomOk (r7.2.1.length + [((7 : Int), (([] : tC), ([] : tC), ([] : tW)), (1 : Int), (-1 : Int))].length) 96) then
 let l10 := (r7.2.1 ++ [((7 : Int), (([] : tC), ([] : tC), ([] : tW)), (1 : Int), (-1 : Int))])
 some ((r7.1.1, (IntKind.i64.wrap (r7.1.2.1 + 1)), r7.1.2.2), l10, ())
 else none
 else
 bif (r8.2.1 == ([63] : List UInt8)) then
 bif (roomOk (r7.2.1.length + [((7 : Int), (([] : tC), ([] : tC), ([] : tW)), (0 : Int), (1 : Int))].length) 96) then
 let l11 := (r7.2.1 ++ [((7 : Int), (([] : tC), ([] : tC), ([] : tW)), (0 : Int), (1 : Int))])
 some ((r7.1.1, (IntKind.i64.wrap (r7.1.2.1 + 1)), r7.1.2.2), l11, ())
 else none
 else
 bif (r8.2.1 == ([123] : List UInt8)) then
 ((x_count7 (r7.1.1, (IntKind.i64.wrap (r7.1.2.1 + 1)), r7.1.2.2)).bind fun r12 =>
 bif (roomOk (r7.2.1.length + [r12.2.1].length) 96) then
 some (r12.1, (r7.2.1 ++ [r12.2.1]), ())
 else none)
 else
 some (r7.1, r7.2.1, ())))))))
def part7_c (choiceR : StT → Int → Option (StT × List NodeT × Unit)) : Ctr := ⟨[.mu y4, .ro yi64], [.own (.vec y0)], fun v => part7 choiceR v.1 v.2.1⟩
def part7_h : zH := fun i => if i = 1040007 then zC [zR [(0, y4), (4, .vec y0)], zN [(0, y4), (1, yi64)]] else if i = 1010004 then zC [zR [(0, y4), (4, .vec y0)], zN [(0, y4), (1, yi64)]] else none
def part7_g (choiceR : StT → Int → Option (StT × List NodeT × Unit)) : List (Nat × Ctr) := [(63, here7_c), (98, x_count7_c), (97, (atom7_c choiceR))]
theorem part7_eq (choiceR : StT → Int → Option (StT × List NodeT × Unit)) (v : PDen (part7_c choiceR).ps) : semF tbl (gam (part7_g choiceR)) part7_h fuN 89 (bodyOf Tryz.f84) (part7_c choiceR).ps (part7_c choiceR).rs [4] [] v = (part7_c choiceR).g v := by kernel_rfl
def row7_s3 (choiceR : StT → Int → Option (StT × List NodeT × Unit)) (a0 : tT) (a1 : Int) (a5 : tG) (a6 : Int) : Option ((tT × Int × tG × Int × Unit) ⊕ (tT × tG × Int × Unit)) :=
 ((show Option ((tT × Int × tG × Int × Unit) ⊕ (tT × tG × Int × Unit)) from
 ((here7 (some a0)).bind fun r5 =>
 bif (!(r5.2.1 == ([] : List UInt8))) then
 ((here7 (some a0)).bind fun r6 =>
 bif (!(r6.2.1 == ([124] : List UInt8))) then
 ((here7 (some a0)).bind fun r7 =>
 bif (!(r7.2.1 == ([41] : List UInt8))) then
 some (.inl (a0, a1, a5, a6, ()))
 else
 some (.inr (a0, a5, a6, ())))
 else
 some (.inr (a0, a5, a6, ())))
 else
 some (.inr (a0, a5, a6, ())))).bind fun y8 =>
 (match y8 with
 | .inl y8 =>
 ((part7 choiceR y8.1 y8.2.1).bind fun r9 =>
 ((join7 y8.2.2.1 r9.2.1).bind fun r10 =>
 let v11 := (decide ((IntKind.i64.wrap (y8.2.2.2.1 + 1)) > 1))
 bif v11 then
 bif (roomOk (r10.2.1.length + [((5 : Int), (([] : tC), ([] : tC), ([] : tW)), (0 : Int), (0 : Int))].length) 96) then
 let l12 := (r10.2.1 ++ [((5 : Int), (([] : tC), ([] : tC), ([] : tW)), (0 : Int), (0 : Int))])
 some (.inl (r9.1, y8.2.1, l12, (IntKind.i64.wrap (y8.2.2.2.1 + 1)), ()))
 else none
 else
 some (.inl (r9.1, y8.2.1, r10.2.1, (IntKind.i64.wrap (y8.2.2.2.1 + 1)), ()))))
 | .inr y8 =>
 some (.inr (y8.1, y8.2.1, y8.2.2.1, ()))))
def row7 (choiceR : StT → Int → Option (StT × List NodeT × Unit)) (p0 : tT) (p1 : Int) : Option (tT × tG × Unit) :=
 ((show Option (tT × tG × Int × Unit) from
 ((iterN (fun x => row7_s3 choiceR x.1 x.2.1 x.2.2.1 x.2.2.2.1) fuN (p0, p1, ([] : tG), (0 : Int), ())).bind fun y13 =>
 some (y13.1, y13.2.1, y13.2.2.1, ()))).bind fun y14 =>
 bif (y14.2.2.1 == 0) then
 some (y14.1, [((1 : Int), (([] : tC), ([] : tC), ([] : tW)), (0 : Int), (0 : Int))], ())
 else
 some (y14.1, y14.2.1, ()))
def row7_c (choiceR : StT → Int → Option (StT × List NodeT × Unit)) : Ctr := ⟨[.mu y4, .ro yi64], [.own (.vec y0)], fun v => row7 choiceR v.1 v.2.1⟩
def row7_h : zH := fun i => if i = 1030008 then zC [zN [(0, y4), (5, .vec y0), (6, yi64)]] else if i = 3 then zL [(0, y4), (1, yi64), (5, .vec y0), (6, yi64)] [zX 0 [(0, y4), (5, .vec y0), (6, yi64)]] else if i = 1030004 then zC [zN [(0, y4), (1, yi64), (5, .vec y0), (6, yi64)], zX 0 [(0, y4), (5, .vec y0), (6, yi64)]] else none
def row7_g (choiceR : StT → Int → Option (StT × List NodeT × Unit)) : List (Nat × Ctr) := [(63, here7_c), (64, join7_c), (84, (part7_c choiceR))]
theorem row7_eq (choiceR : StT → Int → Option (StT × List NodeT × Unit)) (v : PDen (row7_c choiceR).ps) : semF tbl (gam (row7_g choiceR)) row7_h fuN 38 (bodyOf Tryz.f62) (row7_c choiceR).ps (row7_c choiceR).rs [4] [] v = (row7_c choiceR).g v := by kernel_rfl
def choice0_s3 (choiceR : StT → Int → Option (StT × List NodeT × Unit)) (a0 : tT) (a1 : Int) (a5 : tG) : Option ((tT × Int × tG × Unit) ⊕ (tT × tG × Unit)) :=
 ((show Option ((tT × Int × tG × Unit) ⊕ (tT × tG × Unit)) from
 ((here7 (some a0)).bind fun r5 =>
 bif (r5.2.1 == ([124] : List UInt8)) then
 some (.inl (a0, a1, a5, ()))
 else
 some (.inr (a0, a5, ())))).bind fun y6 =>
 (match y6 with
 | .inl y6 =>
 ((row7 choiceR (y6.1.1, (IntKind.i64.wrap (y6.1.2.1 + 1)), y6.1.2.2) y6.2.1).bind fun r7 =>
 ((join7 y6.2.2.1 r7.2.1).bind fun r8 =>
 bif (roomOk (r8.2.1.length + [((6 : Int), (([] : tC), ([] : tC), ([] : tW)), (0 : Int), (0 : Int))].length) 96) then
 let l9 := (r8.2.1 ++ [((6 : Int), (([] : tC), ([] : tC), ([] : tW)), (0 : Int), (0 : Int))])
 some (.inl (r7.1, y6.2.1, l9, ()))
 else none))
 | .inr y6 =>
 some (.inr (y6.1, y6.2.1, ()))))
def choice0 (choiceR : StT → Int → Option (StT × List NodeT × Unit)) (p0 : tT) (p1 : Int) : Option (tT × tG × Unit) :=
 ((row7 choiceR p0 p1).bind fun r1 =>
 ((iterN (fun x => choice0_s3 choiceR x.1 x.2.1 x.2.2.1) fuN (r1.1, p1, r1.2.1, ())).bind fun y10 =>
 some (y10.1, y10.2.1, ())))
def choice0_c (choiceR : StT → Int → Option (StT × List NodeT × Unit)) : Ctr := ⟨[.mu y4, .ro yi64], [.own (.vec y0)], fun v => choice0 choiceR v.1 v.2.1⟩
def choice0_h : zH := fun i => if i = 2 then zL [(0, y4), (1, yi64), (5, .vec y0)] [zX 0 [(0, y4), (5, .vec y0)]] else if i = 1020003 then zC [zN [(0, y4), (1, yi64), (5, .vec y0)], zX 0 [(0, y4), (5, .vec y0)]] else none
def choice0_g (choiceR : StT → Int → Option (StT × List NodeT × Unit)) : List (Nat × Ctr) := [(63, here7_c), (64, join7_c), (62, (row7_c choiceR))]
theorem choice0_eq (choiceR : StT → Int → Option (StT × List NodeT × Unit)) (v : PDen (choice0_c choiceR).ps) : semF tbl (gam (choice0_g choiceR)) choice0_h fuN 29 (bodyOf Tryz.f33) (choice0_c choiceR).ps (choice0_c choiceR).rs [4] [] v = (choice0_c choiceR).g v := by kernel_rfl
def choiceN : Nat → StT → Int → Option (StT × List NodeT × Unit)
  | 0 => fun _ _ => none
  | k + 1 => choice0 (choiceN k)
def choiceR (s : StT) (d : Int) : Option (StT × List NodeT × Unit) := choiceN 8 s d
def choiceR_c : Ctr := choiceR_cR choiceR
def parse7 (p0 : List Int) : Option (Unit × tG × Int × Int × Unit) :=
 ((split4 p0 (64 : Int)).bind fun r1 =>
 ((show Option ((Unit × Int × Int × Unit) ⊕ (List (List UInt8 × Int × Int) × Unit)) from
 bif (r1.2.2.1 != 0) then
 some (.inl ((), (r1.2.1.length : Int), r1.2.2.1, ()))
 else
 some (.inr (r1.2.1, ()))).bind fun y3 =>
 (match y3 with
 | .inl y3 =>
 some ((), ([] : tG), y3.2.1, y3.2.2.1, ())
 | .inr y3 =>
 ((show Option ((Unit × Int × Int × Unit) ⊕ (List (List UInt8 × Int × Int) × Unit)) from
 bif (decide ((y3.1.length : Int) > 4096)) then
 some (.inl ((), (0 : Int), (3 : Int), ()))
 else
 some (.inr (y3.1, ()))).bind fun y5 =>
 (match y5 with
 | .inl y5 =>
 some ((), ([] : tG), y5.2.1, y5.2.2.1, ())
 | .inr y5 =>
 ((texts4 y5.1).bind fun r6 =>
 ((choiceR (r6.2.1, (0 : Int), (0 : Int), (0 : Int)) (0 : Int)).bind fun r7 =>
 ((show Option (tT × tG × Unit) from
 ((show Option (tT × tG × Bool × Unit) from
 bif (r7.1.2.2.1 == 0) then
 some (r7.1, r7.2.1, (decide (r7.1.2.1 < (r7.1.1.length : Int))), ())
 else
 some (r7.1, r7.2.1, false, ())).bind fun y10 =>
 bif y10.2.2.1 then
 ((fail7 y10.1 y10.1.2.1 (2 : Int)).bind fun r11 =>
 some (r11.1, y10.2.1, ()))
 else
 some (y10.1, y10.2.1, ()))).bind fun y12 =>
 ((show Option ((Unit × Int × Int × Unit) ⊕ (tG × Unit)) from
 bif (y12.1.2.2.1 != 0) then
 some (.inl ((), y12.1.2.2.2, y12.1.2.2.1, ()))
 else
 some (.inr (y12.2.1, ()))).bind fun y14 =>
 (match y14 with
 | .inl y14 =>
 some ((), ([] : tG), y14.2.1, y14.2.2.1, ())
 | .inr y14 =>
 some ((), y14.1, (0 : Int), (0 : Int), ())))))))))))
def parse7_c : Ctr := ⟨[.ro (.slice yu8)], [.val s0, .val yi64, .val yi64], fun v => parse7 v.1⟩
def parse7_h : zH := fun i => if i = 1100012 then zC [zR [(2, .nils), (3, yi64), (4, yi64)], zN [(8, .vec y0)]] else if i = 1080010 then zC [zN [(7, y4), (8, .vec y0)]] else if i = 1080009 then zC [zN [(7, y4), (8, .vec y0), (44, .bool)]] else if i = 1040006 then zC [zR [(2, .nils), (3, yi64), (4, yi64)], zN [(5, .slice y9)]] else if i = 1020004 then zC [zR [(2, .nils), (3, yi64), (4, yi64)], zN [(5, .slice y9)]] else none
def parse7_g : zG := [(31, split4_c), (32, texts4_c), (34, fail7_c), (33, choiceR_c)]
theorem parse7_eq : EqB parse7_c parse7_g parse7_h 65 Tryz.f18 [2, 3, 4] [] := fun v => by kernel_rfl
def may7_s3 (a0 : tG) (a3 : Int) (a4 : Int) : Option ((tG × Int × Int × Unit) ⊕ ((Bool × Unit) ⊕ (Int × Unit))) :=
 ((show Option ((tG × Int × Int × Unit) ⊕ (Int × Unit)) from
 bif (decide (a4 < (a0.length : Int))) then
 some (.inl (a0, a3, a4, ()))
 else
 some (.inr (a3, ()))).bind fun y5 =>
 (match y5 with
 | .inl y5 =>
 ((show Option ((Bool × Unit) ⊕ (tG × Int × Int × Unit)) from
 ((lk y5.1 y5.2.2.1).bind fun x7 =>
 ((same6 x7.2.1 (([] : tC), ([] : tC), ([] : tW))).bind fun r8 =>
 ((show Option ((Bool × Unit) ⊕ (tG × Int × Int × tN × Unit)) from
 bif (x7.1 != 7) then
 bif (x7.2.2.1 != 0) then
 some (.inl (false, ()))
 else
 bif (x7.2.2.2 != 0) then
 some (.inl (false, ()))
 else
 bif (x7.1 != 2) then
 bif (!r8.2.1) then
 some (.inl (false, ()))
 else
 some (.inr (y5.1, y5.2.1, y5.2.2.1, x7, ()))
 else
 some (.inr (y5.1, y5.2.1, y5.2.2.1, x7, ()))
 else
 bif (x7.1 != 2) then
 bif (!r8.2.1) then
 some (.inl (false, ()))
 else
 some (.inr (y5.1, y5.2.1, y5.2.2.1, x7, ()))
 else
 some (.inr (y5.1, y5.2.1, y5.2.2.1, x7, ()))).bind fun y10 =>
 (match y10 with
 | .inl y10 =>
 some (.inl (y10.1, ()))
 | .inr y10 =>
 ((show Option (tG × Int × Int × tN × Int × Bool × Unit) from
 bif (y10.2.2.2.1.1 == 1) then
 some (y10.1, y10.2.1, y10.2.2.1, y10.2.2.2.1, y10.2.2.2.1.1, (y10.2.2.2.1.1 == 1), ())
 else
 bif (y10.2.2.2.1.1 == 3) then
 some (y10.1, y10.2.1, y10.2.2.1, y10.2.2.2.1, y10.2.2.2.1.1, (y10.2.2.2.1.1 == 3), ())
 else
 some (y10.1, y10.2.1, y10.2.2.1, y10.2.2.2.1, y10.2.2.2.1.1, (y10.2.2.2.1.1 == 4), ())).bind fun y12 =>
 bif y12.2.2.2.2.2.1 then
 some (.inr (y12.1, (IntKind.i64.wrap (y12.2.1 + 1)), y12.2.2.1, ()))
 else
 bif (y12.2.2.2.2.1 == 2) then
 ((norm6 y12.2.2.2.1.2.1).bind fun r13 =>
 ((same6 r13.2.1 y12.2.2.2.1.2.1).bind fun r14 =>
 bif (!r14.2.1) then
 some (.inl (false, ()))
 else
 some (.inr (y12.1, (IntKind.i64.wrap (y12.2.1 + 1)), y12.2.2.1, ()))))
 else
 ((show Option (tG × Int × Int × tN × Int × Bool × Unit) from
 bif (y12.2.2.2.2.1 == 5) then
 some (y12.1, y12.2.1, y12.2.2.1, y12.2.2.2.1, y12.2.2.2.2.1, (y12.2.2.2.2.1 == 5), ())
 else
 some (y12.1, y12.2.1, y12.2.2.1, y12.2.2.2.1, y12.2.2.2.2.1, (y12.2.2.2.2.1 == 6), ())).bind fun y16 =>
 bif y16.2.2.2.2.2.1 then
 let v17 := (decide ((IntKind.i64.wrap (y16.2.1 - 1)) < 1))
 bif v17 then
 some (.inl (false, ()))
 else
 some (.inr (y16.1, (IntKind.i64.wrap (y16.2.1 - 1)), y16.2.2.1, ()))
 else
 bif (y16.2.2.2.2.1 == 7) then
 bif (decide (y16.2.1 < 1)) then
 some (.inl (false, ()))
 else
 bif (decide (y16.2.2.2.1.2.2.1 < 0)) then
 some (.inl (false, ()))
 else
 bif (decide (y16.2.2.2.1.2.2.1 > 64)) then
 some (.inl (false, ()))
 else
 bif (decide (y16.2.2.2.1.2.2.2 > 64)) then
 some (.inl (false, ()))
 else
 bif (decide (y16.2.2.2.1.2.2.2 < y16.2.2.2.1.2.2.1)) then
 bif (y16.2.2.2.1.2.2.2 != (-1 : Int)) then
 some (.inl (false, ()))
 else
 some (.inr (y16.1, y16.2.1, y16.2.2.1, ()))
 else
 some (.inr (y16.1, y16.2.1, y16.2.2.1, ()))
 else
 some (.inl (false, ()))))))))).bind fun y18 =>
 (match y18 with
 | .inl y18 =>
 some (.inr (.inl (y18.1, ())))
 | .inr y18 =>
 some (.inl (y18.1, y18.2.1, (IntKind.i64.wrap (y18.2.2.1 + 1)), ()))))
 | .inr y5 =>
 some (.inr (.inr (y5.1, ())))))
def may7 (p0 : tG) : Option (Unit × Bool × Unit) :=
 ((show Option ((Bool × Unit) ⊕ (Int × Unit)) from
 ((iterN (fun x => may7_s3 x.1 x.2.1 x.2.2.1) fuN (p0, (0 : Int), (0 : Int), ())).bind fun y19 =>
 (match y19 with
 | .inl y19 =>
 some (.inl (y19.1, ()))
 | .inr y19 =>
 some (.inr (y19.1, ()))))).bind fun y20 =>
 (match y20 with
 | .inl y20 =>
 some ((), y20.1, ())
 | .inr y20 =>
 some ((), (y20.1 == 1), ())))
def may7_c : Ctr := ⟨[.ro s0], [.val .bool], fun v => may7 v.1⟩
def may7_h : zH := fun i => if i = 1020027 then zC [zR [(2, .bool)], zN [(3, yi64)]] else if i = 3 then zL [(0, s0), (3, yi64), (4, yi64)] [zR [(2, .bool)], zX 0 [(3, yi64)]] else if i = 1050004 then zC [zR [(2, .bool)], zN [(0, s0), (3, yi64), (4, yi64)]] else if i = 1190021 then zC [zN [(0, s0), (3, yi64), (4, yi64), (5, .bx y0), (44, yi64), (62, .bool)]] else if i = 1110014 then zC [zN [(0, s0), (3, yi64), (4, yi64), (5, .bx y0), (44, yi64), (45, .bool)]] else if i = 1070009 then zC [zR [(2, .bool)], zN [(0, s0), (3, yi64), (4, yi64), (5, .bx y0)]] else if i = 1030005 then zC [zN [(0, s0), (3, yi64), (4, yi64)], zX 0 [(3, yi64)]] else none
def may7_g : zG := [(25, same6_c), (26, norm6_c)]
theorem may7_eq : EqB may7_c may7_g may7_h 102 Tryz.f35 [2] [] := fun v => by kernel_rfl
def put8_s2 (a0 : tG) (a1 : tG) (a5 : Int) (a6 : Int) : Option ((tG × tG × Int × Int × Unit) ⊕ (tG × Unit)) :=
 ((show Option ((tG × tG × Int × Int × Unit) ⊕ (tG × Unit)) from
 bif (decide (a6 < (a1.length : Int))) then
 some (.inl (a0, a1, a5, a6, ()))
 else
 some (.inr (a0, ()))).bind fun y4 =>
 (match y4 with
 | .inl y4 =>
 ((show Option (tG × tG × Int × Int × Unit) from
 ((lk y4.2.1 y4.2.2.2.1).bind fun x6 =>
 ((show Option (tG × tG × Int × Int × tN × Unit) from
 ((show Option (tG × tG × Int × Int × tN × Bool × Unit) from
 bif (x6.1 == 2) then
 some (y4.1, y4.2.1, y4.2.2.1, y4.2.2.2.1, x6, true, ())
 else
 some (y4.1, y4.2.1, y4.2.2.1, y4.2.2.2.1, x6, (x6.1 == 3), ())).bind fun y9 =>
 bif y9.2.2.2.2.2.1 then
 some (y9.1, y9.2.1, y9.2.2.1, y9.2.2.2.1, (y9.2.2.2.2.1.1, y9.2.2.2.2.1.2.1, (IntKind.i64.wrap (y9.2.2.2.2.1.2.2.1 + y9.2.2.1)), y9.2.2.2.2.1.2.2.2), ())
 else
 some (y9.1, y9.2.1, y9.2.2.1, y9.2.2.2.1, y9.2.2.2.2.1, ()))).bind fun y10 =>
 ((show Option (tG × tG × Int × Int × tN × Unit) from
 bif (y10.2.2.2.2.1.1 == 2) then
 some (y10.1, y10.2.1, y10.2.2.1, y10.2.2.2.1, (y10.2.2.2.2.1.1, y10.2.2.2.2.1.2.1, y10.2.2.2.2.1.2.2.1, (IntKind.i64.wrap (y10.2.2.2.2.1.2.2.2 + y10.2.2.1))), ())
 else
 some (y10.1, y10.2.1, y10.2.2.1, y10.2.2.2.1, y10.2.2.2.2.1, ())).bind fun y12 =>
 bif (roomOk (y12.1.length + [y12.2.2.2.2.1].length) 96) then
 some ((y12.1 ++ [y12.2.2.2.2.1]), y12.2.1, y12.2.2.1, y12.2.2.2.1, ())
 else none)))).bind fun y13 =>
 some (.inl (y13.1, y13.2.1, y13.2.2.1, (IntKind.i64.wrap (y13.2.2.2.1 + 1)), ())))
 | .inr y4 =>
 some (.inr (y4.1, ()))))
def put8 (p0 : tG) (p1 : tG) : Option (Unit × tG × Unit) :=
 ((iterN (fun x => put8_s2 x.1 x.2.1 x.2.2.1 x.2.2.2.1) fuN (p0, p1, (p0.length : Int), (0 : Int), ())).bind fun y14 =>
 some ((), y14.1, ()))
def put8_c : Ctr := ⟨[.own (.vec y0), .ro s0], [.own (.vec y0)], fun v => put8 v.1 v.2.1⟩
def put8_h : zH := fun i => if i = 3 then zL [(0, .vec y0), (1, s0), (5, yi64), (6, yi64)] [zX 0 [(0, .vec y0)]] else if i = 1050004 then zC [zN [(0, .vec y0), (1, s0), (5, yi64), (6, yi64)]] else if i = 1080010 then zC [zN [(0, .vec y0), (1, s0), (5, yi64), (6, yi64), (7, .bx y0)]] else if i = 1060008 then zC [zN [(0, .vec y0), (1, s0), (5, yi64), (6, yi64), (7, .bx y0)]] else if i = 1060007 then zC [zN [(0, .vec y0), (1, s0), (5, yi64), (6, yi64), (7, .bx y0), (27, .bool)]] else if i = 1030005 then zC [zN [(0, .vec y0), (1, s0), (5, yi64), (6, yi64)], zX 0 [(0, .vec y0)]] else none
theorem put8_eq : EqB put8_c [] put8_h 46 Tryz.f37 [4] [] := fun v => by kernel_rfl
def repeat8_s3 (a0 : tG) (a1 : Int) (a2 : Int) (a8 : tG) (a9 : Int) : Option ((tG × Int × Int × tG × Int × Unit) ⊕ ((Unit × Bool × Unit) ⊕ (tG × Int × Int × tG × Unit))) :=
 ((show Option ((tG × Int × Int × tG × Int × Unit) ⊕ (tG × Int × Int × tG × Unit)) from
 bif (decide (a9 < a1)) then
 some (.inl (a0, a1, a2, a8, a9, ()))
 else
 some (.inr (a0, a1, a2, a8, ()))).bind fun y5 =>
 (match y5 with
 | .inl y5 =>
 ((show Option ((Unit × Bool × Unit) ⊕ (tG × Int × Int × tG × Int × Unit)) from
 ((show Option ((Unit × Bool × Unit) ⊕ (tG × Int × Int × tG × Int × Unit)) from
 let v8 := (IntKind.i64.wrap ((y5.2.2.2.1.length : Int) + (y5.1.length : Int)))
 bif (decide (v8 > 4095)) then
 some (.inl ((), false, ()))
 else
 some (.inr (y5.1, y5.2.1, y5.2.2.1, y5.2.2.2.1, y5.2.2.2.2.1, ()))).bind fun y9 =>
 (match y9 with
 | .inl y9 =>
 some (.inl ((), y9.2.1, ()))
 | .inr y9 =>
 ((put8 y9.2.2.2.1 y9.1).bind fun r10 =>
 some (.inr (y9.1, y9.2.1, y9.2.2.1, r10.2.1, y9.2.2.2.2.1, ())))))).bind fun y11 =>
 (match y11 with
 | .inl y11 =>
 some (.inr (.inl ((), y11.2.1, ())))
 | .inr y11 =>
 some (.inl (y11.1, y11.2.1, y11.2.2.1, y11.2.2.2.1, (IntKind.i64.wrap (y11.2.2.2.2.1 + 1)), ()))))
 | .inr y5 =>
 some (.inr (.inr (y5.1, y5.2.1, y5.2.2.1, y5.2.2.2.1, ())))))
def repeat8_s30 (a0 : tG) (a2 : Int) (a8 : tG) (a11 : Int) (a12 : Int) : Option ((tG × Int × tG × Int × Int × Unit) ⊕ (tG × Unit)) :=
 ((show Option ((tG × Int × tG × Int × Int × Unit) ⊕ (tG × Unit)) from
 bif (decide (a12 < a2)) then
 some (.inl (a0, a2, a8, a11, a12, ()))
 else
 some (.inr (a8, ()))).bind fun y32 =>
 (match y32 with
 | .inl y32 =>
 ((show Option (tG × Int × tG × Int × Int × Unit) from
 bif (roomOk (y32.2.2.1.length + [((2 : Int), (([] : tC), ([] : tC), ([] : tW)), (IntKind.i64.wrap ((y32.2.2.1.length : Int) + 1)), y32.2.2.2.1)].length) 96) then
 let l34 := (y32.2.2.1 ++ [((2 : Int), (([] : tC), ([] : tC), ([] : tW)), (IntKind.i64.wrap ((y32.2.2.1.length : Int) + 1)), y32.2.2.2.1)])
 ((put8 l34 y32.1).bind fun r35 =>
 some (y32.1, y32.2.1, r35.2.1, y32.2.2.2.1, y32.2.2.2.2.1, ()))
 else none).bind fun y36 =>
 some (.inl (y36.1, y36.2.1, y36.2.2.1, y36.2.2.2.1, (IntKind.i64.wrap (y36.2.2.2.2.1 + 1)), ())))
 | .inr y32 =>
 some (.inr (y32.1, ()))))
def repeat8 (p0 : tG) (p1 : Int) (p2 : Int) : Option (Unit × tG × Bool × Unit) :=
 ((show Option ((Unit × Bool × Unit) ⊕ (tG × Int × Int × tG × Unit)) from
 ((iterN (fun x => repeat8_s3 x.1 x.2.1 x.2.2.1 x.2.2.2.1 x.2.2.2.2.1) fuN (p0, p1, p2, ([] : tG), (0 : Int), ())).bind fun y12 =>
 (match y12 with
 | .inl y12 =>
 some (.inl ((), y12.2.1, ()))
 | .inr y12 =>
 some (.inr (y12.1, y12.2.1, y12.2.2.1, y12.2.2.2.1, ()))))).bind fun y13 =>
 (match y13 with
 | .inl y13 =>
 some ((), ([] : tG), y13.2.1, ())
 | .inr y13 =>
 ((show Option ((tG × Bool × Unit) ⊕ (tG × Int × Int × tG × Unit)) from
 bif (y13.2.2.1 == (-1 : Int)) then
 ((show Option ((Unit × Bool × Unit) ⊕ (tG × tG × Int × Unit)) from
 let v16 := (IntKind.i64.wrap ((y13.2.2.2.1.length : Int) + (y13.1.length : Int)))
 let v17 := (decide ((IntKind.i64.wrap (v16 + 2)) > 4095))
 bif v17 then
 some (.inl ((), false, ()))
 else
 some (.inr (y13.1, y13.2.2.2.1, (y13.2.2.2.1.length : Int), ()))).bind fun y18 =>
 (match y18 with
 | .inl y18 =>
 some (.inl (([] : tG), y18.2.1, ()))
 | .inr y18 =>
 let v19 := (IntKind.i64.wrap ((IntKind.i64.wrap (y18.2.2.1 + (y18.1.length : Int))) + 2))
 bif (roomOk (y18.2.1.length + [((2 : Int), (([] : tC), ([] : tC), ([] : tW)), (IntKind.i64.wrap (y18.2.2.1 + 1)), v19)].length) 96) then
 let l20 := (y18.2.1 ++ [((2 : Int), (([] : tC), ([] : tC), ([] : tW)), (IntKind.i64.wrap (y18.2.2.1 + 1)), v19)])
 ((put8 l20 y18.1).bind fun r21 =>
 bif (roomOk (r21.2.1.length + [((3 : Int), (([] : tC), ([] : tC), ([] : tW)), y18.2.2.1, (0 : Int))].length) 96) then
 let l22 := (r21.2.1 ++ [((3 : Int), (([] : tC), ([] : tC), ([] : tW)), y18.2.2.1, (0 : Int))])
 some (.inl (l22, true, ()))
 else none)
 else none))
 else
 some (.inr (y13.1, y13.2.1, y13.2.2.1, y13.2.2.2.1, ()))).bind fun y23 =>
 (match y23 with
 | .inl y23 =>
 some ((), y23.1, y23.2.1, ())
 | .inr y23 =>
 let v24 := (IntKind.i64.wrap ((IntKind.i64.wrap (y23.2.2.1 - y23.2.1)) * (IntKind.i64.wrap ((y23.1.length : Int) + 1))))
 ((show Option ((Unit × Bool × Unit) ⊕ (tG × Int × Int × tG × Int × Unit)) from
 let v26 := (decide ((IntKind.i64.wrap ((y23.2.2.2.1.length : Int) + v24)) > 4095))
 bif v26 then
 some (.inl ((), false, ()))
 else
 some (.inr (y23.1, y23.2.1, y23.2.2.1, y23.2.2.2.1, (IntKind.i64.wrap ((y23.2.2.2.1.length : Int) + v24)), ()))).bind fun y27 =>
 (match y27 with
 | .inl y27 =>
 some ((), ([] : tG), y27.2.1, ())
 | .inr y27 =>
 ((show Option (tG × Unit) from
 ((iterN (fun x => repeat8_s30 x.1 x.2.1 x.2.2.1 x.2.2.2.1 x.2.2.2.2.1) fuN (y27.1, y27.2.2.1, y27.2.2.2.1, y27.2.2.2.2.1, y27.2.1, ())).bind fun y37 =>
 some (y37.1, ()))).bind fun y38 =>
 some ((), y38.1, true, ()))))))))
def repeat8_c : Ctr := ⟨[.ro s0, .ro yi64, .ro yi64], [.val s0, .val .bool], fun v => repeat8 v.1 v.2.1 v.2.2.1⟩
def repeat8_h : zH := fun i => if i = 1180023 then zC [zN [(8, .vec y0)]] else if i = 19 then zL [(0, s0), (2, yi64), (8, .vec y0), (11, yi64), (12, yi64)] [zX 2 [(8, .vec y0)]] else if i = 1210020 then zC [zN [(0, s0), (2, yi64), (8, .vec y0), (11, yi64), (12, yi64)]] else if i = 1190021 then zC [zN [(0, s0), (2, yi64), (8, .vec y0), (11, yi64), (12, yi64)], zX 2 [(8, .vec y0)]] else if i = 1160018 then zC [zR [(6, .nils), (7, .bool)], zN [(0, s0), (1, yi64), (2, yi64), (8, .vec y0), (11, yi64)]] else if i = 1080015 then zC [zR [(6, .vec y0), (7, .bool)], zN [(0, s0), (1, yi64), (2, yi64), (8, .vec y0)]] else if i = 1100012 then zC [zR [(6, .nils), (7, .bool)], zN [(0, s0), (8, .vec y0), (10, yi64)]] else if i = 1020008 then zC [zR [(6, .nils), (7, .bool)], zN [(0, s0), (1, yi64), (2, yi64), (8, .vec y0)]] else if i = 3 then zL [(0, s0), (1, yi64), (2, yi64), (8, .vec y0), (9, yi64)] [zR [(6, .nils), (7, .bool)], zX 0 [(0, s0), (1, yi64), (2, yi64), (8, .vec y0)]] else if i = 1050004 then zC [zR [(6, .nils), (7, .bool)], zN [(0, s0), (1, yi64), (2, yi64), (8, .vec y0), (9, yi64)]] else if i = 1050007 then zC [zR [(6, .nils), (7, .bool)], zN [(0, s0), (1, yi64), (2, yi64), (8, .vec y0), (9, yi64)]] else if i = 1030005 then zC [zN [(0, s0), (1, yi64), (2, yi64), (8, .vec y0), (9, yi64)], zX 0 [(0, s0), (1, yi64), (2, yi64), (8, .vec y0)]] else none
def repeat8_g : zG := [(37, put8_c)]
theorem repeat8_eq : EqB repeat8_c repeat8_g repeat8_h 86 Tryz.f65 [6, 7] [] := fun v => by kernel_rfl
def code8_s3 (a0 : tG) (a4 : List tG) (a5 : Int) : Option ((tG × List tG × Int × Unit) ⊕ ((Unit × Bool × Unit) ⊕ (List tG × Unit))) :=
 ((show Option ((tG × List tG × Int × Unit) ⊕ (List tG × Unit)) from
 bif (decide (a5 < (a0.length : Int))) then
 some (.inl (a0, a4, a5, ()))
 else
 some (.inr (a4, ()))).bind fun y5 =>
 (match y5 with
 | .inl y5 =>
 ((show Option ((tG × List tG × Int × Unit) ⊕ (Unit × Bool × Unit)) from
 ((lk y5.1 y5.2.2.1).bind fun x7 =>
 bif (x7.1 == 1) then
 let l8 := ([] : tG)
 bif (roomOk (y5.2.1.length + [l8].length) 24) then
 some (.inl (y5.1, (y5.2.1 ++ [l8]), y5.2.2.1, ()))
 else none
 else
 bif (x7.1 == 2) then
 bif (roomOk (y5.2.1.length + [[((1 : Int), x7.2.1, (0 : Int), (0 : Int))]].length) 24) then
 let l9 := (y5.2.1 ++ [[((1 : Int), x7.2.1, (0 : Int), (0 : Int))]])
 some (.inl (y5.1, l9, y5.2.2.1, ()))
 else none
 else
 bif (x7.1 == 3) then
 bif (roomOk (y5.2.1.length + [[((4 : Int), (([] : tC), ([] : tC), ([] : tW)), (0 : Int), (0 : Int))]].length) 24) then
 let l10 := (y5.2.1 ++ [[((4 : Int), (([] : tC), ([] : tC), ([] : tW)), (0 : Int), (0 : Int))]])
 some (.inl (y5.1, l10, y5.2.2.1, ()))
 else none
 else
 bif (x7.1 == 4) then
 bif (roomOk (y5.2.1.length + [[((5 : Int), (([] : tC), ([] : tC), ([] : tW)), (0 : Int), (0 : Int))]].length) 24) then
 let l11 := (y5.2.1 ++ [[((5 : Int), (([] : tC), ([] : tC), ([] : tW)), (0 : Int), (0 : Int))]])
 some (.inl (y5.1, l11, y5.2.2.1, ()))
 else none
 else
 bif (x7.1 == 5) then
 ((lk y5.2.1 (IntKind.i64.wrap ((y5.2.1.length : Int) - 2))).bind fun _x12 =>
 ((lk y5.2.1 (IntKind.i64.wrap ((y5.2.1.length : Int) - 2))).bind fun x13 =>
 ((lk y5.2.1 (IntKind.i64.wrap ((y5.2.1.length : Int) - 1))).bind fun _x14 =>
 ((lk y5.2.1 (IntKind.i64.wrap ((y5.2.1.length : Int) - 1))).bind fun x15 =>
 ((show Option ((Unit × Bool × Unit) ⊕ (tG × List tG × Int × Int × tG × tG × Unit)) from
 let v17 := (decide ((IntKind.i64.wrap ((x13.length : Int) + (x15.length : Int))) > 4095))
 bif v17 then
 some (.inl ((), false, ()))
 else
 some (.inr (y5.1, y5.2.1, y5.2.2.1, (y5.2.1.length : Int), x13, x15, ()))).bind fun y18 =>
 (match y18 with
 | .inl y18 =>
 some (.inr ((), y18.2.1, ()))
 | .inr y18 =>
 bif (inB (0 : Int) (IntKind.i64.wrap (y18.2.2.2.1 - 1)) y18.2.1.length) then
 let v19 := ((IntKind.i64.wrap (y18.2.2.2.1 - 1)) - 0).toNat
 ((put8 ([] : tG) y18.2.2.2.2.1).bind fun r20 =>
 ((put8 r20.2.1 y18.2.2.2.2.2.1).bind fun r21 =>
 bif (inR (IntKind.i64.wrap (y18.2.2.2.1 - 2)) v19) then
 let v22 := (plusI (0 : Int).toNat (IntKind.i64.wrap (y18.2.2.2.1 - 2)))
 ((lk y18.2.1 v22).bind fun x23 =>
 some (.inl (y18.1, ((((y18.2.1.set v22.toNat r21.2.1)).drop (0 : Int).toNat).take v19), y18.2.2.1, ())))
 else none))
 else none))))))
 else
 bif (x7.1 == 6) then
 ((lk y5.2.1 (IntKind.i64.wrap ((y5.2.1.length : Int) - 2))).bind fun _x24 =>
 ((lk y5.2.1 (IntKind.i64.wrap ((y5.2.1.length : Int) - 2))).bind fun x25 =>
 ((lk y5.2.1 (IntKind.i64.wrap ((y5.2.1.length : Int) - 1))).bind fun _x26 =>
 ((lk y5.2.1 (IntKind.i64.wrap ((y5.2.1.length : Int) - 1))).bind fun x27 =>
 ((show Option ((Unit × Bool × Unit) ⊕ (tG × List tG × Int × Int × tG × tG × Unit)) from
 let v29 := (IntKind.i64.wrap ((IntKind.i64.wrap ((x25.length : Int) + (x27.length : Int))) + 2))
 bif (decide (v29 > 4095)) then
 some (.inl ((), false, ()))
 else
 some (.inr (y5.1, y5.2.1, y5.2.2.1, (y5.2.1.length : Int), x25, x27, ()))).bind fun y30 =>
 (match y30 with
 | .inl y30 =>
 some (.inr ((), y30.2.1, ()))
 | .inr y30 =>
 let v31 := (IntKind.i64.wrap ((y30.2.2.2.2.1.length : Int) + 2))
 ((put8 [((2 : Int), (([] : tC), ([] : tC), ([] : tW)), (1 : Int), v31)] y30.2.2.2.2.1).bind fun r32 =>
 let v33 := (IntKind.i64.wrap ((y30.2.2.2.2.1.length : Int) + (y30.2.2.2.2.2.1.length : Int)))
 bif (roomOk (r32.2.1.length + [((3 : Int), (([] : tC), ([] : tC), ([] : tW)), (IntKind.i64.wrap (v33 + 2)), (0 : Int))].length) 96) then
 let l34 := (r32.2.1 ++ [((3 : Int), (([] : tC), ([] : tC), ([] : tW)), (IntKind.i64.wrap (v33 + 2)), (0 : Int))])
 bif (inB (0 : Int) (IntKind.i64.wrap (y30.2.2.2.1 - 1)) y30.2.1.length) then
 let v35 := ((IntKind.i64.wrap (y30.2.2.2.1 - 1)) - 0).toNat
 ((put8 l34 y30.2.2.2.2.2.1).bind fun r36 =>
 bif (inR (IntKind.i64.wrap (y30.2.2.2.1 - 2)) v35) then
 let v37 := (plusI (0 : Int).toNat (IntKind.i64.wrap (y30.2.2.2.1 - 2)))
 ((lk y30.2.1 v37).bind fun x38 =>
 some (.inl (y30.1, ((((y30.2.1.set v37.toNat r36.2.1)).drop (0 : Int).toNat).take v35), y30.2.2.1, ())))
 else none)
 else none
 else none)))))))
 else
 bif (x7.1 == 7) then
 ((lk y5.2.1 (IntKind.i64.wrap ((y5.2.1.length : Int) - 1))).bind fun _x39 =>
 ((lk y5.2.1 (IntKind.i64.wrap ((y5.2.1.length : Int) - 1))).bind fun x40 =>
 ((repeat8 x40 x7.2.2.1 x7.2.2.2).bind fun r41 =>
 ((show Option ((Unit × Bool × Unit) ⊕ (tG × List tG × Int × Int × tG × Unit)) from
 bif (!r41.2.2.1) then
 some (.inl ((), false, ()))
 else
 some (.inr (y5.1, y5.2.1, y5.2.2.1, (y5.2.1.length : Int), r41.2.1, ()))).bind fun y43 =>
 (match y43 with
 | .inl y43 =>
 some (.inr ((), y43.2.1, ()))
 | .inr y43 =>
 ((lk y43.2.1 (IntKind.i64.wrap (y43.2.2.2.1 - 1))).bind fun _x44 =>
 ((lk y43.2.1 (IntKind.i64.wrap (y43.2.2.2.1 - 1))).bind fun x45 =>
 let l46 := (y43.2.1.set (IntKind.i64.wrap (y43.2.2.2.1 - 1)).toNat y43.2.2.2.2.1)
 some (.inl (y43.1, l46, y43.2.2.1, ())))))))))
 else
 some (.inl (y5.1, y5.2.1, y5.2.2.1, ())))).bind fun y47 =>
 (match y47 with
 | .inl y47 =>
 some (.inl (y47.1, y47.2.1, (IntKind.i64.wrap (y47.2.2.1 + 1)), ()))
 | .inr y47 =>
 some (.inr (.inl ((), y47.2.1, ())))))
 | .inr y5 =>
 some (.inr (.inr (y5.1, ())))))
def code8 (p0 : tG) : Option (Unit × tG × Bool × Unit) :=
 ((show Option ((Unit × Bool × Unit) ⊕ (List tG × Unit)) from
 ((iterN (fun x => code8_s3 x.1 x.2.1 x.2.2.1) fuN (p0, ([] : List tG), (0 : Int), ())).bind fun y48 =>
 (match y48 with
 | .inl y48 =>
 some (.inl ((), y48.2.1, ()))
 | .inr y48 =>
 some (.inr (y48.1, ()))))).bind fun y49 =>
 (match y49 with
 | .inl y49 =>
 some ((), ([] : tG), y49.2.1, ())
 | .inr y49 =>
 ((lk y49.1 (0 : Int)).bind fun _x50 =>
 ((lk y49.1 (0 : Int)).bind fun x51 =>
 some ((), x51, true, ())))))
def code8_c : Ctr := ⟨[.ro s0], [.val s0, .val .bool], fun v => code8 v.1⟩
def code8_h : zH := fun i => if i = 1020035 then zC [zR [(2, .nils), (3, .bool)], zN [(4, .vec s0)]] else if i = 3 then zL [(0, s0), (4, .vec s0), (5, yi64)] [zR [(2, .nils), (3, .bool)], zX 0 [(4, .vec s0)]] else if i = 1050004 then zC [zN [(0, s0), (4, .vec s0), (5, yi64)], zR [(2, .nils), (3, .bool)]] else if i = 1320034 then zC [zR [(2, .nils), (3, .bool)], zN [(0, s0), (4, .vec s0), (5, yi64), (7, yi64), (13, s0)]] else if i = 1240026 then zC [zR [(2, .nils), (3, .bool)], zN [(0, s0), (4, .vec s0), (5, yi64), (7, yi64), (10, s0), (11, s0)]] else if i = 1180020 then zC [zR [(2, .nils), (3, .bool)], zN [(0, s0), (4, .vec s0), (5, yi64), (7, yi64), (8, s0), (9, s0)]] else if i = 1030005 then zC [zN [(0, s0), (4, .vec s0), (5, yi64)], zX 0 [(4, .vec s0)]] else none
def code8_g : zG := [(37, put8_c), (65, repeat8_c)]
theorem code8_eq : EqB code8_c code8_g code8_h 159 Tryz.f36 [2, 3] [] := fun v => by kernel_rfl
def compile8 (p0 : tG) : Option (Unit × tG × Int × Unit) :=
 ((show Option ((Unit × Int × Unit) ⊕ (tG × Unit)) from
 ((may7 p0).bind fun r2 =>
 bif (!r2.2.1) then
 some (.inl ((), (2 : Int), ()))
 else
 some (.inr (p0, ())))).bind fun y3 =>
 (match y3 with
 | .inl y3 =>
 some ((), ([] : tG), y3.2.1, ())
 | .inr y3 =>
 ((code8 y3.1).bind fun r4 =>
 ((show Option ((Unit × Int × Unit) ⊕ (tG × Unit)) from
 bif (!r4.2.2.1) then
 some (.inl ((), (5 : Int), ()))
 else
 some (.inr (r4.2.1, ()))).bind fun y6 =>
 (match y6 with
 | .inl y6 =>
 some ((), ([] : tG), y6.2.1, ())
 | .inr y6 =>
 ((put8 ([] : tG) y6.1).bind fun r7 =>
 bif (roomOk (r7.2.1.length + [((6 : Int), (([] : tC), ([] : tC), ([] : tW)), (0 : Int), (0 : Int))].length) 96) then
 let l8 := (r7.2.1 ++ [((6 : Int), (([] : tC), ([] : tC), ([] : tW)), (0 : Int), (0 : Int))])
 some ((), l8, (0 : Int), ())
 else none))))))
def compile8_c : Ctr := ⟨[.ro s0], [.val s0, .val yi64], fun v => compile8 v.1⟩
def compile8_h : zH := fun i => if i = 1040006 then zC [zR [(2, .nils), (3, yi64)], zN [(4, s0)]] else if i = 1010003 then zC [zR [(2, .nils), (3, yi64)], zN [(0, s0)]] else none
def compile8_g : zG := [(35, may7_c), (37, put8_c), (36, code8_c)]
theorem compile8_eq : EqB compile8_c compile8_g compile8_h 21 Tryz.f19 [2, 3] [] := fun v => by kernel_rfl
def pattern8 (p0 : List Int) : Option (Unit × tG × Int × Int × Unit) :=
 ((parse7 p0).bind fun r1 =>
 ((show Option ((Unit × Int × Int × Unit) ⊕ (tG × Unit)) from
 bif (r1.2.2.2.1 != 0) then
 some (.inl ((), r1.2.2.1, r1.2.2.2.1, ()))
 else
 some (.inr (r1.2.1, ()))).bind fun y3 =>
 (match y3 with
 | .inl y3 =>
 some ((), ([] : tG), y3.2.1, y3.2.2.1, ())
 | .inr y3 =>
 ((compile8 y3.1).bind fun r4 =>
 some ((), r4.2.1, (0 : Int), r4.2.2.1, ())))))
def pattern8_c : Ctr := ⟨[.ro (.slice yu8)], [.val s0, .val yi64, .val yi64], fun v => pattern8 v.1⟩
def pattern8_h : zH := fun i => if i = 1020004 then zC [zR [(2, .nils), (3, yi64), (4, yi64)], zN [(5, s0)]] else none
def pattern8_g : zG := [(18, parse7_c), (19, compile8_c)]
theorem pattern8_eq : EqB pattern8_c pattern8_g pattern8_h 26 Tryz.f42 [2, 3, 4] [] := fun v => by kernel_rfl
def of10 (p0 : List UInt8) : Option (Unit × tG × Unit) :=
 ((pattern8 (u8s p0)).bind fun r1 =>
 some ((), r1.2.1, ()))
def of10_c : Ctr := ⟨[.ro .str], [.val s0], fun v => of10 v.1⟩
def of10_g : zG := [(42, pattern8_c)]
theorem of10_eq : EqB of10_c of10_g h0 14 Tryz.f21 [2] [] := fun v => by kernel_rfl
def fixed : Option (Unit × Bool × Unit) :=
 ((of10 ([97, 42, 98] : List UInt8)).bind fun r1 =>
 ((pLongest r1.2.1 [([97] : List UInt8), ([97] : List UInt8), ([98] : List UInt8), ([97] : List UInt8)] (0 : Int) true false).bind fun r2 =>
 ((of10 ([97, 42, 98] : List UInt8)).bind fun r3 =>
 ((pLongest r3.2.1 [([97] : List UInt8), ([97] : List UInt8), ([98] : List UInt8), ([97] : List UInt8)] (3 : Int) true false).bind fun r4 =>
 ((of10 ([97, 124, 97, 98] : List UInt8)).bind fun r5 =>
 ((pAll r5.2.1 [([97] : List UInt8), ([98] : List UInt8), ([97] : List UInt8)]).bind fun r6 =>
 ((of10 ([40, 97, 98, 41, 42] : List UInt8)).bind fun r7 =>
 ((pWhole r7.2.1 [([97] : List UInt8), ([98] : List UInt8), ([97] : List UInt8), ([98] : List UInt8)]).bind fun r8 =>
 ((pLongest ([] : tG) [([97] : List UInt8), ([97] : List UInt8), ([98] : List UInt8), ([97] : List UInt8)] (0 : Int) true true).bind fun r9 =>
 bif (r2.2.1 == 3) then
 bif r2.2.2.1 then
 bif (!r2.2.2.2.1) then
 bif (r2.2.2.2.2.1 == 0) then
 bif (!r4.2.2.1) then
 bif r4.2.2.2.1 then
 bif (r6.2.2.1 == 0) then
 bif ((r6.2.1.length : Int) == 2) then
 ((lk r6.2.1 (0 : Int)).bind fun _x10 =>
 ((lk r6.2.1 (0 : Int)).bind fun x11 =>
 bif (x11.2.1 == 2) then
 ((lk r6.2.1 (1 : Int)).bind fun _x12 =>
 ((lk r6.2.1 (1 : Int)).bind fun x13 =>
 bif (x13.1 == 2) then
 bif r8.2.1 then
 bif (r8.2.2.1 == 0) then
 bif (r9.2.2.2.2.1 == 1) then
 ((of10 ([97] : List UInt8)).bind fun r14 =>
 ((pSteps r14.2.1 [([98] : List UInt8)] (0 : Int) true true).bind fun r15 =>
 some ((), (r15.2.1 == 1), ())))
 else
 some ((), false, ())
 else
 some ((), false, ())
 else
 some ((), false, ())
 else
 some ((), false, ())))
 else
 some ((), false, ())))
 else
 some ((), false, ())
 else
 some ((), false, ())
 else
 some ((), false, ())
 else
 some ((), false, ())
 else
 some ((), false, ())
 else
 some ((), false, ())
 else
 some ((), false, ())
 else
 some ((), false, ()))))))))))
def fixed_c : Ctr := ⟨[], [.val .bool], fun v => fixed⟩
def fixed_g : zG := [(10, pLongest_c), (11, pSteps_c), (14, pAll_c), (15, pWhole_c), (21, of10_c)]
theorem fixed_eq : EqB fixed_c fixed_g h0 114 Tryz.f9 [0] [] := fun v => by kernel_rfl
def lRuns (p0 : tG) (p1 : tW) (p2 : (Int × Int × Int)) : Option (Unit × Bool × Unit) :=
 ((show Option ((Bool × Unit) ⊕ (tG × tW × (Int × Int × Int) × Unit)) from
 ((fixed).bind fun r2 =>
 bif (!r2.2.1) then
 some (.inl (false, ()))
 else
 some (.inr (p0, p1, p2, ())))).bind fun y3 =>
 (match y3 with
 | .inl y3 =>
 some ((), y3.1, ())
 | .inr y3 =>
 bif ((2 : Int) != 0) then
 bif ((2 : Int) != 0) then
 ((pLongest y3.1 y3.2.1 y3.2.2.1.1 ((Int.tmod y3.2.2.1.2.1 (2 : Int)) != 0) ((Int.tmod y3.2.2.1.2.2 (2 : Int)) != 0)).bind fun r4 =>
 ((pSteps y3.1 y3.2.1 y3.2.2.1.1 ((Int.tmod y3.2.2.1.2.1 (2 : Int)) != 0) ((Int.tmod y3.2.2.1.2.2 (2 : Int)) != 0)).bind fun r5 =>
 ((show Option ((Bool × Unit) ⊕ (tG × tW × Int × Bool × Bool × Int × Bool × Bool × Int × Int × Unit)) from
 ((show Option (tG × tW × Int × Bool × Bool × Int × Bool × Bool × Int × Int × Bool × Unit) from
 ((may8 y3.1).bind fun r8 =>
 bif (!r8.2.1) then
 some (y3.1, y3.2.1, y3.2.2.1.1, ((Int.tmod y3.2.2.1.2.1 (2 : Int)) != 0), ((Int.tmod y3.2.2.1.2.2 (2 : Int)) != 0), r4.2.1, r4.2.2.1, r4.2.2.2.1, r4.2.2.2.2.1, r5.2.1, true, ())
 else
 bif (decide (y3.2.2.1.1 < 0)) then
 some (y3.1, y3.2.1, y3.2.2.1.1, ((Int.tmod y3.2.2.1.2.1 (2 : Int)) != 0), ((Int.tmod y3.2.2.1.2.2 (2 : Int)) != 0), r4.2.1, r4.2.2.1, r4.2.2.2.1, r4.2.2.2.2.1, r5.2.1, true, ())
 else
 some (y3.1, y3.2.1, y3.2.2.1.1, ((Int.tmod y3.2.2.1.2.1 (2 : Int)) != 0), ((Int.tmod y3.2.2.1.2.2 (2 : Int)) != 0), r4.2.1, r4.2.2.1, r4.2.2.2.1, r4.2.2.2.2.1, r5.2.1, (decide (y3.2.2.1.1 > (y3.2.1.length : Int))), ()))).bind fun y9 =>
 bif y9.2.2.2.2.2.2.2.2.2.2.1 then
 bif (y9.2.2.2.2.2.2.2.2.1 == 1) then
 bif (y9.2.2.2.2.2.1 == 0) then
 bif (!y9.2.2.2.2.2.2.1) then
 bif (!y9.2.2.2.2.2.2.2.1) then
 some (.inl ((y9.2.2.2.2.2.2.2.2.2.1 == 0), ()))
 else
 some (.inl (false, ()))
 else
 some (.inl (false, ()))
 else
 some (.inl (false, ()))
 else
 some (.inl (false, ()))
 else
 some (.inr (y9.1, y9.2.1, y9.2.2.1, y9.2.2.2.1, y9.2.2.2.2.1, y9.2.2.2.2.2.1, y9.2.2.2.2.2.2.1, y9.2.2.2.2.2.2.2.1, y9.2.2.2.2.2.2.2.2.1, y9.2.2.2.2.2.2.2.2.2.1, ())))).bind fun y10 =>
 (match y10 with
 | .inl y10 =>
 some ((), y10.1, ())
 | .inr y10 =>
 ((long10 y10.1 y10.2.1 y10.2.2.1 y10.2.2.2.1 y10.2.2.2.2.1).bind fun r11 =>
 bif (y10.2.2.2.2.2.2.2.2.1 == 0) then
 bif (y10.2.2.2.2.2.1 == r11.2.1) then
 bif (y10.2.2.2.2.2.2.1 == r11.2.2.1) then
 bif (y10.2.2.2.2.2.2.2.1 == r11.2.2.2.1) then
 bif (y10.2.2.2.2.2.2.2.2.2.1 == r11.2.2.2.2.1) then
 let v12 := (IntKind.i64.wrap ((IntKind.i64.wrap ((y10.2.1.length : Int) - y10.2.2.1)) + 1))
 let v13 := (decide (y10.2.2.2.2.2.2.2.2.2.1 ≤ (IntKind.i64.wrap ((y10.1.length : Int) * v12))))
 some ((), v13, ())
 else
 some ((), false, ())
 else
 some ((), false, ())
 else
 some ((), false, ())
 else
 some ((), false, ())
 else
 some ((), false, ()))))))
 else none
 else none))
def lRuns_c : Ctr := ⟨[.ro s0, .ro s1, .ro (.st (.pair yi64 y3))], [.val .bool], fun v => lRuns v.1 v.2.1 v.2.2.1⟩
def lRuns_h : zH := fun i => if i = 1060008 then zC [zR [(6, .bool)], zN [(0, s0), (1, s1), (7, yi64), (8, .bool), (9, .bool), (10, yi64), (11, .bool), (12, .bool), (13, yi64), (14, yi64)]] else if i = 1060007 then zC [zN [(0, s0), (1, s1), (7, yi64), (8, .bool), (9, .bool), (10, yi64), (11, .bool), (12, .bool), (13, yi64), (14, yi64), (60, .bool)]] else if i = 1010003 then zC [zR [(6, .bool)], zN [(0, s0), (1, s1), (5, .bx (.st (.pair yi64 y3)))]] else none
def lRuns_g : zG := [(10, pLongest_c), (11, pSteps_c), (12, may8_c), (13, long10_c), (9, fixed_c)]
theorem lRuns_eq : EqB lRuns_c lRuns_g lRuns_h 124 Tryz.f3 [6] [] := fun v => by kernel_rfl
def lAlls (p0 : tG) (p1 : tW) : Option (Unit × Bool × Unit) :=
 ((show Option ((Bool × Unit) ⊕ (tG × tW × Unit)) from
 ((fixed).bind fun r2 =>
 bif (!r2.2.1) then
 some (.inl (false, ()))
 else
 some (.inr (p0, p1, ())))).bind fun y3 =>
 (match y3 with
 | .inl y3 =>
 some ((), y3.1, ())
 | .inr y3 =>
 ((pAll y3.1 y3.2.1).bind fun r4 =>
 ((pWhole y3.1 y3.2.1).bind fun r5 =>
 ((show Option ((Bool × Unit) ⊕ (tG × tW × List tK × Int × Bool × Int × Unit)) from
 ((may8 y3.1).bind fun r7 =>
 bif (!r7.2.1) then
 bif (r4.2.2.1 == 1) then
 bif (r5.2.2.1 == 1) then
 bif ((r4.2.1.length : Int) == 0) then
 some (.inl ((!r5.2.1), ()))
 else
 some (.inl (false, ()))
 else
 some (.inl (false, ()))
 else
 some (.inl (false, ()))
 else
 some (.inr (y3.1, y3.2.1, r4.2.1, r4.2.2.1, r5.2.1, r5.2.2.1, ())))).bind fun y8 =>
 (match y8 with
 | .inl y8 =>
 some ((), y8.1, ())
 | .inr y8 =>
 ((long10 y8.1 y8.2.1 (0 : Int) true true).bind fun r9 =>
 bif (y8.2.2.2.1 == 0) then
 bif (y8.2.2.2.2.2.1 == 0) then
 ((all10 y8.1 y8.2.1).bind fun r10 =>
 ((sameSpans y8.2.2.1 r10.2.1).bind fun r11 =>
 bif r11.2.1 then
 bif r9.2.2.1 then
 some ((), (y8.2.2.2.2.1 == (r9.2.1 == (y8.2.1.length : Int))), ())
 else
 some ((), (y8.2.2.2.2.1 == false), ())
 else
 some ((), false, ())))
 else
 some ((), false, ())
 else
 some ((), false, ()))))))))
def lAlls_c : Ctr := ⟨[.ro s0, .ro s1], [.val .bool], fun v => lAlls v.1 v.2.1⟩
def lAlls_h : zH := fun i => if i = 1050007 then zC [zR [(4, .bool)], zN [(0, s0), (1, s1), (5, .vec y6), (6, yi64), (7, .bool), (8, yi64)]] else if i = 1010003 then zC [zR [(4, .bool)], zN [(0, s0), (1, s1)]] else none
def lAlls_g : zG := [(14, pAll_c), (15, pWhole_c), (12, may8_c), (13, long10_c), (17, all10_c), (16, sameSpans_c), (9, fixed_c)]
theorem lAlls_eq : EqB lAlls_c lAlls_g lAlls_h 77 Tryz.f4 [4] [] := fun v => by kernel_rfl
def lMore (p0 : tG) (p1 : (tW × tW)) (p2 : (Int × Int)) : Option (Unit × Bool × Unit) :=
 ((show Option ((Bool × Unit) ⊕ (tG × (tW × tW) × (Int × Int) × Unit)) from
 ((fixed).bind fun r2 =>
 bif (!r2.2.1) then
 some (.inl (false, ()))
 else
 some (.inr (p0, p1, p2, ())))).bind fun y3 =>
 (match y3 with
 | .inl y3 =>
 some ((), y3.1, ())
 | .inr y3 =>
 bif ((2 : Int) != 0) then
 ((pLongest y3.1 y3.2.1.1 y3.2.2.1.1 ((Int.tmod y3.2.2.1.2 (2 : Int)) != 0) false).bind fun r4 =>
 ((show Option ((Bool × Unit) ⊕ (tG × (tW × tW) × Int × Bool × Int × Bool × Unit)) from
 bif (r4.2.2.2.2.1 != 0) then
 some (.inl (true, ()))
 else
 bif r4.2.2.2.1 then
 some (.inl (true, ()))
 else
 some (.inr (y3.1, y3.2.1, y3.2.2.1.1, ((Int.tmod y3.2.2.1.2 (2 : Int)) != 0), r4.2.1, r4.2.2.1, ()))).bind fun y6 =>
 (match y6 with
 | .inl y6 =>
 some ((), y6.1, ())
 | .inr y6 =>
 bif (roomOk (([] : tW).length + y6.2.1.1.length) 16) then
 bif (roomOk ((([] : tW) ++ y6.2.1.1).length + y6.2.1.2.length) 16) then
 ((pLongest y6.1 ((([] : tW) ++ y6.2.1.1) ++ y6.2.1.2) y6.2.2.1 y6.2.2.2.1 false).bind fun r7 =>
 ((pLongest y6.1 ((([] : tW) ++ y6.2.1.1) ++ y6.2.1.2) y6.2.2.1 y6.2.2.2.1 true).bind fun r8 =>
 bif (r7.2.2.2.2.1 == 0) then
 bif (r8.2.2.2.2.1 == 0) then
 bif (y6.2.2.2.2.1 == r7.2.1) then
 bif (y6.2.2.2.2.2.1 == r7.2.2.1) then
 bif (!r7.2.2.2.1) then
 bif (y6.2.2.2.2.1 == r8.2.1) then
 some ((), (y6.2.2.2.2.2.1 == r8.2.2.1), ())
 else
 some ((), false, ())
 else
 some ((), false, ())
 else
 some ((), false, ())
 else
 some ((), false, ())
 else
 some ((), false, ())
 else
 some ((), false, ())))
 else none
 else none)))
 else none))
def lMore_c : Ctr := ⟨[.ro s0, .ro (.st (.pair s1 s1)), .ro (.st y3)], [.val .bool], fun v => lMore v.1 v.2.1 v.2.2.1⟩
def lMore_h : zH := fun i => if i = 1050007 then zC [zR [(6, .bool)], zN [(0, s0), (4, .bx (.st (.pair s1 s1))), (7, yi64), (8, .bool), (9, yi64), (10, .bool)]] else if i = 1010003 then zC [zR [(6, .bool)], zN [(0, s0), (4, .bx (.st (.pair s1 s1))), (5, .bx (.st y3))]] else none
def lMore_g : zG := [(10, pLongest_c), (9, fixed_c)]
theorem lMore_eq : EqB lMore_c lMore_g lMore_h 103 Tryz.f6 [6] [] := fun v => by kernel_rfl
def lShifts (p0 : tG) (p1 : tW) (p2 : (Int × Int)) : Option (Unit × Bool × Unit) :=
 ((show Option ((Bool × Unit) ⊕ (tG × tW × (Int × Int) × Unit)) from
 ((fixed).bind fun r2 =>
 bif (!r2.2.1) then
 some (.inl (false, ()))
 else
 some (.inr (p0, p1, p2, ())))).bind fun y3 =>
 (match y3 with
 | .inl y3 =>
 some ((), y3.1, ())
 | .inr y3 =>
 bif ((2 : Int) != 0) then
 ((show Option (tG × tW × Int × Bool × Unit) from
 bif (decide ((y3.2.1.length : Int) > 0)) then
 let v5 := (IntKind.u64.wrap ((IntKind.i64.wrap ((y3.2.1.length : Int) + 1))))
 bif (v5 != 0) then
 let v6 := (IntKind.i64.wrap ((Int.tmod (IntKind.u64.wrap (y3.2.2.1.1)) v5)))
 some (y3.1, y3.2.1, v6, ((Int.tmod y3.2.2.1.2 (2 : Int)) != 0), ())
 else none
 else
 some (y3.1, y3.2.1, (0 : Int), ((Int.tmod y3.2.2.1.2 (2 : Int)) != 0), ())).bind fun y7 =>
 ((pLongest y7.1 y7.2.1 y7.2.2.1 false y7.2.2.2.1).bind fun r8 =>
 bif (inB y7.2.2.1 (y7.2.1.length : Int) y7.2.1.length) then
 ((pLongest y7.1 (cut y7.2.1 y7.2.2.1 (y7.2.1.length : Int)) (0 : Int) false y7.2.2.2.1).bind fun r9 =>
 ((show Option (tG × tW × Int × Bool × Int × Bool × Bool × Int × Int × Bool × Bool × Int × Unit) from
 bif r8.2.2.1 then
 some (y7.1, y7.2.1, y7.2.2.1, y7.2.2.2.1, r8.2.1, r8.2.2.1, r8.2.2.2.1, r8.2.2.2.2.1, (IntKind.i64.wrap (r9.2.1 + y7.2.2.1)), r9.2.2.1, r9.2.2.2.1, r9.2.2.2.2.1, ())
 else
 some (y7.1, y7.2.1, y7.2.2.1, y7.2.2.2.1, r8.2.1, r8.2.2.1, r8.2.2.2.1, r8.2.2.2.2.1, r9.2.1, r9.2.2.1, r9.2.2.2.1, r9.2.2.2.2.1, ())).bind fun y11 =>
 ((show Option ((Bool × Unit) ⊕ (tG × tW × Int × Bool × Int × Bool × Bool × Int × Unit)) from
 bif (y11.2.2.2.2.1 != y11.2.2.2.2.2.2.2.2.1) then
 some (.inl (false, ()))
 else
 bif (!(y11.2.2.2.2.2.1 == y11.2.2.2.2.2.2.2.2.2.1)) then
 some (.inl (false, ()))
 else
 bif (!(y11.2.2.2.2.2.2.1 == y11.2.2.2.2.2.2.2.2.2.2.1)) then
 some (.inl (false, ()))
 else
 bif (y11.2.2.2.2.2.2.2.1 != y11.2.2.2.2.2.2.2.2.2.2.2.1) then
 some (.inl (false, ()))
 else
 some (.inr (y11.1, y11.2.1, y11.2.2.1, y11.2.2.2.1, y11.2.2.2.2.1, y11.2.2.2.2.2.1, y11.2.2.2.2.2.2.1, y11.2.2.2.2.2.2.2.1, ()))).bind fun y13 =>
 (match y13 with
 | .inl y13 =>
 some ((), y13.1, ())
 | .inr y13 =>
 ((pLongest y13.1 y13.2.1 y13.2.2.1 true y13.2.2.2.1).bind fun r14 =>
 bif (y13.2.2.1 == 0) then
 some ((), true, ())
 else
 bif (r14.2.1 == y13.2.2.2.2.1) then
 bif (r14.2.2.1 == y13.2.2.2.2.2.1) then
 bif (r14.2.2.2.1 == y13.2.2.2.2.2.2.1) then
 some ((), (r14.2.2.2.2.1 == y13.2.2.2.2.2.2.2.1), ())
 else
 some ((), false, ())
 else
 some ((), false, ())
 else
 some ((), false, ()))))))
 else none))
 else none))
def lShifts_c : Ctr := ⟨[.ro s0, .ro s1, .ro (.st y3)], [.val .bool], fun v => lShifts v.1 v.2.1 v.2.2.1⟩
def lShifts_h : zH := fun i => if i = 1100012 then zC [zR [(6, .bool)], zN [(0, s0), (1, s1), (7, yi64), (8, .bool), (9, yi64), (10, .bool), (11, .bool), (12, yi64)]] else if i = 1080010 then zC [zN [(0, s0), (1, s1), (7, yi64), (8, .bool), (9, yi64), (10, .bool), (11, .bool), (12, yi64), (13, yi64), (14, .bool), (15, .bool), (16, yi64)]] else if i = 1040006 then zC [zN [(0, s0), (1, s1), (7, yi64), (8, .bool)]] else if i = 1010003 then zC [zR [(6, .bool)], zN [(0, s0), (1, s1), (5, .bx (.st y3))]] else none
def lShifts_g : zG := [(10, pLongest_c), (9, fixed_c)]
theorem lShifts_eq : EqB lShifts_c lShifts_g lShifts_h 114 Tryz.f7 [6] [] := fun v => by kernel_rfl
def lApart_s6 (a0 : tG) (a1 : tW) (a5 : List tK) (a22 : Int) (a23 : Int) : Option ((tG × tW × List tK × Unit × Int × Int × Unit) ⊕ ((Bool × Unit) ⊕ Unit)) :=
 bif (decide (a23 < a22)) then
 ((lk a5 a23).bind fun _x7 =>
 ((lk a5 a23).bind fun x8 =>
 ((show Option ((Bool × Unit) ⊕ (tG × tW × List tK × Int × tK × Unit × Int × Int × Unit)) from
 bif (decide (x8.1 < 0)) then
 some (.inl (false, ()))
 else
 bif (decide (x8.2.1 < x8.1)) then
 some (.inl (false, ()))
 else
 bif (decide (x8.2.1 > (a1.length : Int))) then
 some (.inl (false, ()))
 else
 bif (x8.2.2.1 != 0) then
 some (.inl (false, ()))
 else
 bif (x8.2.2.2 != 0) then
 some (.inl (false, ()))
 else
 some (.inr (a0, a1, a5, a23, x8, (), a22, a23, ()))).bind fun y10 =>
 (match y10 with
 | .inl y10 =>
 some (.inr (.inl (y10.1, ())))
 | .inr y10 =>
 ((show Option ((Bool × Unit) ⊕ (tG × tW × List tK × tK × Unit × Int × Int × Unit)) from
 bif (decide (y10.2.2.2.1 > 0)) then
 ((lk y10.2.2.1 (IntKind.i64.wrap (y10.2.2.2.1 - 1))).bind fun _x12 =>
 ((lk y10.2.2.1 (IntKind.i64.wrap (y10.2.2.2.1 - 1))).bind fun x13 =>
 bif (decide (y10.2.2.2.2.1.1 < x13.2.1)) then
 some (.inl (false, ()))
 else
 ((lk y10.2.2.1 (IntKind.i64.wrap (y10.2.2.2.1 - 1))).bind fun _x14 =>
 ((lk y10.2.2.1 (IntKind.i64.wrap (y10.2.2.2.1 - 1))).bind fun x15 =>
 bif (decide (y10.2.2.2.2.1.1 ≤ x15.1)) then
 some (.inl (false, ()))
 else
 some (.inr (y10.1, y10.2.1, y10.2.2.1, y10.2.2.2.2.1, (), y10.2.2.2.2.2.2.1, y10.2.2.2.2.2.2.2.1, ()))))))
 else
 some (.inr (y10.1, y10.2.1, y10.2.2.1, y10.2.2.2.2.1, (), y10.2.2.2.2.2.2.1, y10.2.2.2.2.2.2.2.1, ()))).bind fun y16 =>
 (match y16 with
 | .inl y16 =>
 some (.inr (.inl (y16.1, ())))
 | .inr y16 =>
 ((pLongest y16.1 y16.2.1 y16.2.2.2.1.1 true true).bind fun r17 =>
 bif (!r17.2.2.1) then
 some (.inr (.inl (false, ())))
 else
 bif (r17.2.1 != y16.2.2.2.1.2.1) then
 some (.inr (.inl (false, ())))
 else
 some (.inl (y16.1, y16.2.1, y16.2.2.1, (), y16.2.2.2.2.2.1, (IntKind.i64.wrap (y16.2.2.2.2.2.2.1 + 1)), ())))))))))
 else
 some (.inr (.inr ()))
def lApart (p0 : tG) (p1 : tW) : Option (Unit × Bool × Unit) :=
 ((show Option ((Bool × Unit) ⊕ (tG × tW × Unit)) from
 ((fixed).bind fun r2 =>
 bif (!r2.2.1) then
 some (.inl (false, ()))
 else
 some (.inr (p0, p1, ())))).bind fun y3 =>
 (match y3 with
 | .inl y3 =>
 some ((), y3.1, ())
 | .inr y3 =>
 ((pAll y3.1 y3.2.1).bind fun r4 =>
 ((iterN (fun x => lApart_s6 x.1 x.2.1 x.2.2.1 x.2.2.2.2.1 x.2.2.2.2.2.1) fuN (y3.1, y3.2.1, r4.2.1, (), (r4.2.1.length : Int), (0 : Int), ())).bind fun y18 =>
 (match y18 with
 | .inl y18 =>
 some ((), y18.1, ())
 | .inr y18 =>
 some ((), true, ()))))))
def lApart_c : Ctr := ⟨[.ro s0, .ro s1], [.val .bool], fun v => lApart v.1 v.2.1⟩
def lApart_h : zH := fun i => if i = 5 then zL [(0, s0), (1, s1), (5, .vec y6), (21, .ow 0), (22, yi64), (23, yi64)] [zR [(4, .bool)], zX 0 []] else if i = 1090011 then zC [zR [(4, .bool)], zN [(0, s0), (1, s1), (5, .vec y6), (8, .bx y6), (21, .ow 0), (22, yi64), (23, yi64)]] else if i = 1070009 then zC [zR [(4, .bool)], zN [(0, s0), (1, s1), (5, .vec y6), (7, yi64), (8, .bx y6), (21, .ow 0), (22, yi64), (23, yi64)]] else if i = 1010003 then zC [zR [(4, .bool)], zN [(0, s0), (1, s1)]] else none
def lApart_g : zG := [(10, pLongest_c), (14, pAll_c), (9, fixed_c)]
theorem lApart_eq : EqB lApart_c lApart_g lApart_h 98 Tryz.f8 [4] [] := fun v => by kernel_rfl
end
end
end Go.Vt.Pk
