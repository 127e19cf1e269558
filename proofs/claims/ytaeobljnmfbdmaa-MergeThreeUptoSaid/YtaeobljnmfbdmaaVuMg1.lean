/- Values' functions of the program, printed, and that each body computes its own. -/
import Derived.Test.YtaeobljnmfbdmaaVuSort4
import Derived.Test.YtaeobljnmfbdmaaProg
set_option linter.unusedVariables false
set_option maxRecDepth 100000
namespace Go.Vu.Mg
noncomputable section
open Go Go.Vu Go.Proofs
def i_less (x y : Int) : Option (Unit × Bool × Unit) := some ((), decide (x < y), ())
def i_less_c : Ctr := ⟨[.ro (.int IntKind.i64), .ro (.int IntKind.i64)], [.val .bool], fun v => i_less v.1 v.2.1⟩
def cmpd (x y : Int) : Int := if x < y then -1 else 1
def p_cmp (p q : Int × Option (Nat × Nat × Nat)) : Option (Unit × Int × Unit) := some ((), cmpd p.1 q.1, ())
def p_cmp_c : Ctr := ⟨[.ro (.st (.pair (.int IntKind.i64) (.psl 0))), .ro (.st (.pair (.int IntKind.i64) (.psl 0)))], [.val (.int IntKind.i64)], fun v => p_cmp v.1 v.2.1⟩
def p_less (p q : Int × Option (Nat × Nat × Nat)) : Option (Unit × Bool × Unit) := some ((), decide (cmpd p.1 q.1 < 0), ())
def i_pdqR_cR (rec : List Int → Int → Int → Int → Option (List Int × Unit)) : Ctr := ⟨[.mu (.vec (.int IntKind.i64)), .ro (.int IntKind.i64), .ro (.int IntKind.i64), .ro (.int IntKind.i64)], [], fun v => rec v.1 v.2.1 v.2.2.1 v.2.2.2.1⟩
def p_pdqR_cR (rec : List (Int × Option (Nat × Nat × Nat)) → Int → Int → Int → Option (List (Int × Option (Nat × Nat × Nat)) × Unit)) : Ctr := ⟨[.mu (.vec (.st (.pair (.int IntKind.i64) (.psl 0)))), .ro (.int IntKind.i64), .ro (.int IntKind.i64), .ro (.int IntKind.i64), .ro (.clo 42 .unit)], [], fun v => rec v.1 v.2.1 v.2.2.1 v.2.2.2.1⟩
def refSorted_cR (rec : List Int → Option (Unit × List Int × Unit)) : Ctr := ⟨[.ro (.slice (.int IntKind.i64))], [.val (.slice (.int IntKind.i64))], fun v => rec v.1⟩
def sortI (l : List Int) : Option (List Int × Unit) := Srt.sortG (Srt.pdqN i_less (l.length + 1)) l
def sortI_c : Ctr := ⟨[.mu (.vec (.int IntKind.i64))], [], fun v => sortI v.1⟩
def sortP (l : List (Int × Option (Nat × Nat × Nat))) : Option (List (Int × Option (Nat × Nat × Nat)) × Unit) := Srt.sortG (Srt.pdqN p_less (l.length + 1)) l
def sortP_c : Ctr := ⟨[.mu (.vec (.st (.pair (.int IntKind.i64) (.psl 0)))), .ro (.clo 42 .unit)], [], fun v => sortP v.1⟩
abbrev tR := List (Int × (Option (Nat × Nat × Nat)))
abbrev tP := List (Int × List Int)
abbrev tO := List (Option (List Int))
abbrev yi64 : Ty := .int IntKind.i64
abbrev yu8 : Ty := .int IntKind.u8
abbrev yu64 : Ty := .int IntKind.u64
abbrev y0 : Ty := .st (.pair yi64 (.slice yi64))
abbrev y1 : Ty := .vec (.st (.pair yi64 (.psl 0)))
abbrev y2 : Ty := .st (.pair yi64 (.psl 0))
abbrev y3 : Ty := .bx (.st (.pair yi64 (.vec yi64)))
abbrev y4 : Ty := .clo 37 (.pair (.rad yi64 0) (.pair (.rad (.slice yi64) 0) .unit))
def zN (l : List (Nat × Ty)) : EK × Tpl := (.normal, ⟨l, [], []⟩)
def zR (l : List (Nat × Ty)) : EK × Tpl := (.ret, ⟨l, [], []⟩)
def zX (k : Nat) (l : List (Nat × Ty)) : EK × Tpl := (.exit k, ⟨l, [], []⟩)
def zL (l : List (Nat × Ty)) (x : List (EK × Tpl)) : Option LH := some ⟨⟨l, [], []⟩, x⟩
def zC (x : List (EK × Tpl)) : Option LH := zL [] x
abbrev zH := Nat → Option LH
abbrev zG := List (Nat × Ctr)
def h0 : zH := fun _ => none
abbrev s0 : Ty := .slice y0
abbrev s1 : Ty := .slice .str
def tbl : Tab := [
  (3, ⟨1, 8, false, (.int IntKind.i64), (.int IntKind.i64), ((0 : Int) : Int), false⟩),
  (4, ⟨1, 1, false, .bool, .bool, (false : Bool), false⟩),
  (5, ⟨1, 1, false, (.int IntKind.u8), (.int IntKind.u8), ((0 : Int) : Int), false⟩),
  (9, ⟨1, 16, false, .str, .str, (([] : List UInt8) : List UInt8), false⟩),
  (22, ⟨1, 24, false, (.slice 34), (.slice (.st (.pair yi64 (.slice yi64)))), (([] : tP) : tP), false⟩),
  (27, ⟨1, 24, false, (.slice 3), (.slice yi64), (([] : List Int) : List Int), false⟩),
  (30, ⟨1, 24, false, (.slice 22), (.slice (.slice (.st (.pair yi64 (.slice yi64))))), (([] : List tP) : List tP), false⟩),
  (34, ⟨2, 32, true, (.struct [(0, 3), (1, 27)]), (.st (.pair yi64 (.slice yi64))), (((0 : Int), ([] : List Int)) : (Int × List Int)), true⟩),
  (36, ⟨1, 24, false, (.slice 5), (.slice yu8), (([] : List Int) : List Int), false⟩),
  (39, ⟨1, 8, false, (.map IntKind.i64 27), .lost, (() : Unit), false⟩),
  (57, ⟨1, 8, false, (.int IntKind.u64), (.int IntKind.u64), ((0 : Int) : Int), false⟩),
  (62, ⟨1, 8, false, (.int IntKind.i64), (.int IntKind.i64), ((0 : Int) : Int), false⟩),
  (71, ⟨1, 8, false, (.int IntKind.u64), (.int IntKind.u64), ((0 : Int) : Int), false⟩),
  (77, ⟨1, 8, false, (.int IntKind.u64), (.int IntKind.u64), ((0 : Int) : Int), false⟩)]
section
variable [Inhabited FuelW]
abbrev EqS (c : Ctr) (g : zG) (h : zH) (n : Nat) (f : Func) (is : List Nat) (cl : List (Nat × Nat)) : Prop := ∀ v : PDen c.ps, semF tbl (gam g) h fuelN n (bodyOf f) [] c.ps c.rs is cl v = c.g v
abbrev EqB (c : Ctr) (g : zG) (h : zH) (n : Nat) (f : Func) (is : List Nat) (cl : List (Nat × Nat)) : Prop := ∀ v : PDen c.ps, semF tbl (gam g) h fuN n (bodyOf f) [] c.ps c.rs is cl v = c.g v
def isNaN (p0 : Int) : Option (Unit × Bool × Unit) :=
 some ((), (p0 != p0), ())
def isNaN_c : Ctr := ⟨[.ro yi64], [.val .bool], fun v => isNaN v.1⟩
def isNaN_h : zH := fun i => none
theorem isNaN_eq : EqB isNaN_c [] isNaN_h 6 Try.f60 [2] [] := fun v => by kernel_rfl
def cmpLess (p0 : Int) (p1 : Int) : Option (Unit × Bool × Unit) :=
 ((isNaN p0).bind fun r1 =>
 bif r1.2.1 then
 ((isNaN p1).bind fun r2 =>
 bif (!r2.2.1) then
 some ((), true, ())
 else
 some ((), (decide (p0 < p1)), ()))
 else
 some ((), (decide (p0 < p1)), ()))
def cmpLess_c : Ctr := ⟨[.ro yi64, .ro yi64], [.val .bool], fun v => cmpLess v.1 v.2.1⟩
def cmpLess_h : zH := fun i => none
def cmpLess_g : zG := [(60, isNaN_c)]
theorem cmpLess_eq : EqB cmpLess_c cmpLess_g cmpLess_h 17 Try.f47 [4] [] := fun v => by kernel_rfl
def postLess (p0 : (Int × (Option (Nat × Nat × Nat)))) (p1 : (Int × (Option (Nat × Nat × Nat)))) : Option (Unit × Int × Unit) :=
 bif (decide (p0.1 < p1.1)) then
 some ((), (-1 : Int), ())
 else
 some ((), (1 : Int), ())
def postLess_c : Ctr := ⟨[.ro y2, .ro y2], [.val yi64], fun v => postLess v.1 v.2.1⟩
def postLess_h : zH := fun i => none
theorem postLess_eq : EqB postLess_c [] postLess_h 10 Try.f42 [4] [] := fun v => by kernel_rfl
def compactI_s14 (a0 : List Int) (a3 : Int) (a4 : (Nat × Nat)) (a5 : Int) : Option ((List Int × Int × (Nat × Nat) × Int × Unit) ⊕ (List Int × Int × Unit)) :=
 ((show Option ((List Int × Int × (Nat × Nat) × Int × Unit) ⊕ (List Int × Int × Unit)) from
 bif (decide (a5 < (a4.2 : Int))) then
 some (.inl (a0, a3, a4, a5, ()))
 else
 some (.inr (a0, a3, ()))).bind fun y16 =>
 (match y16 with
 | .inl y16 =>
 ((show Option (List Int × Int × (Nat × Nat) × Int × Unit) from
 bif (inR y16.2.2.2.1 y16.2.2.1.2) then
 ((lk y16.1 (plusI y16.2.2.1.1 y16.2.2.2.1)).bind fun x18 =>
 bif (inR (IntKind.i64.wrap (y16.2.2.2.1 - 1)) y16.2.2.1.2) then
 let v19 := (plusI y16.2.2.1.1 (IntKind.i64.wrap (y16.2.2.2.1 - 1)))
 ((lk y16.1 v19).bind fun x20 =>
 bif (x18 != x20) then
 bif (inR y16.2.2.2.1 y16.2.2.1.2) then
 ((lk y16.1 (plusI y16.2.2.1.1 y16.2.2.2.1)).bind fun x21 =>
 ((lk y16.1 y16.2.1).bind fun _x22 =>
 ((lk y16.1 y16.2.1).bind fun x23 =>
 some ((y16.1.set y16.2.1.toNat x21), (IntKind.i64.wrap (y16.2.1 + 1)), y16.2.2.1, y16.2.2.2.1, ()))))
 else none
 else
 some (y16.1, y16.2.1, y16.2.2.1, y16.2.2.2.1, ()))
 else none)
 else none).bind fun y24 =>
 some (.inl (y24.1, y24.2.1, y24.2.2.1, (IntKind.i64.wrap (y24.2.2.2.1 + 1)), ())))
 | .inr y16 =>
 some (.inr (y16.1, y16.2.1, ()))))
def compactI_s4 (a0 : List Int) (a3 : Int) : Option ((List Int × Int × Unit) ⊕ ((List Int × Unit) ⊕ (List Int × Unit))) :=
 ((show Option ((List Int × Int × Unit) ⊕ (List Int × Unit)) from
 bif (decide (a3 < (a0.length : Int))) then
 some (.inl (a0, a3, ()))
 else
 some (.inr (a0, ()))).bind fun y6 =>
 (match y6 with
 | .inl y6 =>
 ((show Option ((List Int × Unit) ⊕ (List Int × Int × Unit)) from
 ((lk y6.1 y6.2.1).bind fun _x8 =>
 ((lk y6.1 y6.2.1).bind fun x9 =>
 ((lk y6.1 (IntKind.i64.wrap (y6.2.1 - 1))).bind fun _x10 =>
 ((lk y6.1 (IntKind.i64.wrap (y6.2.1 - 1))).bind fun x11 =>
 bif (x9 == x11) then
 bif (inB y6.2.1 (y6.1.length : Int) y6.1.length) then
 ((show Option (List Int × Int × Unit) from
 ((iterN (fun x => compactI_s14 x.1 x.2.1 x.2.2.1 x.2.2.2.1) fuN (y6.1, y6.2.1, (y6.2.1.toNat, ((y6.1.length : Int) - y6.2.1).toNat), (1 : Int), ())).bind fun y25 =>
 some (y25.1, y25.2.1, ()))).bind fun y26 =>
 bif (inB y26.2.1 (y26.1.length : Int) y26.1.length) then
 let l27 := (clrL y26.1 y26.2.1.toNat ((y26.1.length : Int) - y26.2.1).toNat (0 : Int))
 bif (inB (0 : Int) y26.2.1 l27.length) then
 some (.inl ((((l27).drop (0 : Int).toNat).take (y26.2.1 - 0).toNat), ()))
 else none
 else none)
 else none
 else
 some (.inr (y6.1, y6.2.1, ()))))))).bind fun y28 =>
 (match y28 with
 | .inl y28 =>
 some (.inr (.inl (y28.1, ())))
 | .inr y28 =>
 some (.inl (y28.1, (IntKind.i64.wrap (y28.2.1 + 1)), ()))))
 | .inr y6 =>
 some (.inr (.inr (y6.1, ())))))
def compactI (p0 : List Int) : Option (Unit × List Int × Unit) :=
 ((show Option ((List Int × Unit) ⊕ (List Int × Unit)) from
 bif (decide ((p0.length : Int) < 2)) then
 some (.inl (p0, ()))
 else
 some (.inr (p0, ()))).bind fun y2 =>
 (match y2 with
 | .inl y2 =>
 some ((), y2.1, ())
 | .inr y2 =>
 ((iterN (fun x => compactI_s4 x.1 x.2.1) fuN (y2.1, (1 : Int), ())).bind fun y29 =>
 (match y29 with
 | .inl y29 =>
 some ((), y29.1, ())
 | .inr y29 =>
 some ((), y29.1, ())))))
def compactI_c : Ctr := ⟨[.own (.vec yi64)], [.own (.vec yi64)], fun v => compactI v.1⟩
def compactI_h : zH := fun i => if i = 4 then zL [(0, .vec yi64), (3, yi64)] [zR [(2, .vec yi64)], zX 0 [(0, .vec yi64)]] else if i = 1060005 then zC [zR [(2, .vec yi64)], zN [(0, .vec yi64), (3, yi64)]] else if i = 1080014 then zC [zN [(0, .vec yi64), (3, yi64)]] else if i = 9 then zL [(0, .vec yi64), (3, yi64), (4, (.osl 0)), (5, yi64)] [zX 2 [(0, .vec yi64), (3, yi64)]] else if i = 1110010 then zC [zN [(0, .vec yi64), (3, yi64), (4, (.osl 0)), (5, yi64)]] else if i = 1090011 then zC [zN [(0, .vec yi64), (3, yi64), (4, (.osl 0)), (5, yi64)], zX 2 [(0, .vec yi64), (3, yi64)]] else if i = 1040006 then zC [zN [(0, .vec yi64), (3, yi64)], zX 0 [(0, .vec yi64)]] else if i = 1010003 then zC [zR [(2, .vec yi64)], zN [(0, .vec yi64)]] else none
theorem compactI_eq : EqB compactI_c [] compactI_h 61 Try.f40 [2] [] := fun v => by kernel_rfl
end
def i_len64_c : Ctr := ⟨[.ro yu64], [.val yi64], fun v => Srt.len64 v.1⟩
def i_len64_h : zH := fun i => if i = 1070010 then zC [zN [(0, yu64), (2, yi64)]] else if i = 1040007 then zC [zN [(0, yu64), (2, yi64)]] else if i = 1010004 then zC [zN [(0, yu64), (2, yi64)]] else none
theorem i_len64_eq : EqS i_len64_c [] i_len64_h 25 Try.f59 [2] [] := fun v => by kernel_rfl
def i_bitsLen_c : Ctr := ⟨[.ro yu64], [.val yi64], fun v => Srt.bitsLen v.1⟩
def i_bitsLen_h : zH := fun i => if i = 1010002 then zC [zN [(0, yu64)]] else none
def i_bitsLen_g : zG := [(59, i_len64_c)]
theorem i_bitsLen_eq : EqS i_bitsLen_c i_bitsLen_g i_bitsLen_h 8 Try.f45 [2] [] := fun v => by kernel_rfl
def i_nextPow_c : Ctr := ⟨[.ro yi64], [.val yu64], fun v => Srt.nextPow v.1⟩
def i_nextPow_h : zH := fun i => none
def i_nextPow_g : zG := [(45, i_bitsLen_c)]
theorem i_nextPow_eq : EqS i_nextPow_c i_nextPow_g i_nextPow_h 7 Try.f70 [2] [] := fun v => by kernel_rfl
def i_xorNext_c : Ctr := ⟨[.mu (.bx yu64)], [.val yu64], fun v => Srt.xorNext v.1⟩
def i_xorNext_h : zH := fun i => none
theorem i_xorNext_eq : EqS i_xorNext_c [] i_xorNext_h 33 Try.f71 [2] [] := fun v => by kernel_rfl
def i_insSort_c : Ctr := ⟨[.mu (.vec yi64), .ro yi64, .ro yi64], [], fun v => Srt.insSort i_less v.1 v.2.1 v.2.2.1⟩
def i_insSort_h : zH := fun i => if i = 1 then zL [(0, .vec yi64), (1, yi64), (2, yi64), (6, yi64)] [zX 0 [(0, .vec yi64)]] else if i = 1030002 then zC [zN [(0, .vec yi64), (1, yi64), (2, yi64), (6, yi64)]] else if i = 4 then zL [(0, .vec yi64), (1, yi64), (2, yi64), (6, yi64), (7, yi64)] [zX 2 [(0, .vec yi64), (1, yi64), (2, yi64), (6, yi64)]] else if i = 1060005 then zC [zN [(0, .vec yi64), (1, yi64), (2, yi64), (6, yi64), (7, yi64)]] else if i = 1040006 then zC [zN [(0, .vec yi64), (1, yi64), (2, yi64), (6, yi64), (7, yi64)], zX 2 [(0, .vec yi64), (1, yi64), (2, yi64), (6, yi64)]] else if i = 1010003 then zC [zN [(0, .vec yi64), (1, yi64), (2, yi64), (6, yi64)], zX 0 [(0, .vec yi64)]] else none
def i_insSort_g : zG := [(47, i_less_c)]
theorem i_insSort_eq : EqS i_insSort_c i_insSort_g i_insSort_h 49 Try.f50 [] [] := fun v => by kernel_rfl
def i_siftDown_c : Ctr := ⟨[.mu (.vec yi64), .ro yi64, .ro yi64, .ro yi64], [], fun v => Srt.siftDown i_less v.1 v.2.1 v.2.2.1 v.2.2.2.1⟩
def i_siftDown_h : zH := fun i => if i = 1 then zL [(0, .vec yi64), (2, yi64), (3, yi64), (8, yi64)] [zX 0 [(0, .vec yi64)], zR [(0, .vec yi64)]] else if i = 1050006 then zC [zR [(0, .vec yi64)], zN [(0, .vec yi64), (2, yi64), (3, yi64), (8, yi64), (9, yi64)]] else if i = 1030005 then zC [zN [(0, .vec yi64), (2, yi64), (3, yi64), (8, yi64), (9, yi64)]] else if i = 1030004 then zC [zN [(0, .vec yi64), (2, yi64), (3, yi64), (8, yi64), (9, yi64), (36, .bool)]] else if i = 1020003 then zC [zX 0 [(0, .vec yi64)], zN [(0, .vec yi64), (2, yi64), (3, yi64), (8, yi64), (9, yi64)]] else none
def i_siftDown_g : zG := [(47, i_less_c)]
theorem i_siftDown_eq : EqS i_siftDown_c i_siftDown_g i_siftDown_h 76 Try.f69 [] [] := fun v => by kernel_rfl
def i_heapSort_c : Ctr := ⟨[.mu (.vec yi64), .ro yi64, .ro yi64], [], fun v => Srt.heapSort i_less v.1 v.2.1 v.2.2.1⟩
def i_heapSort_h : zH := fun i => if i = 8 then zL [(0, .vec yi64), (6, yi64), (7, yi64), (10, yi64)] [zX 2 [(0, .vec yi64)]] else if i = 1100009 then zC [zN [(0, .vec yi64), (6, yi64), (7, yi64), (10, yi64)]] else if i = 1080010 then zC [zN [(0, .vec yi64), (6, yi64), (7, yi64), (10, yi64)], zX 2 [(0, .vec yi64)]] else if i = 1030007 then zC [zN [(0, .vec yi64), (6, yi64), (7, yi64), (8, yi64)]] else if i = 4 then zL [(0, .vec yi64), (6, yi64), (7, yi64), (8, yi64), (9, yi64)] [zX 0 [(0, .vec yi64), (6, yi64), (7, yi64), (8, yi64)]] else if i = 1060005 then zC [zN [(0, .vec yi64), (6, yi64), (7, yi64), (8, yi64), (9, yi64)]] else if i = 1040006 then zC [zN [(0, .vec yi64), (6, yi64), (7, yi64), (8, yi64), (9, yi64)], zX 0 [(0, .vec yi64), (6, yi64), (7, yi64), (8, yi64)]] else none
def i_heapSort_g : zG := [(69, i_siftDown_c)]
theorem i_heapSort_eq : EqS i_heapSort_c i_heapSort_g i_heapSort_h 56 Try.f51 [] [] := fun v => by kernel_rfl
def i_breakPat_c : Ctr := ⟨[.mu (.vec yi64), .ro yi64, .ro yi64], [], fun v => Srt.breakPat v.1 v.2.1 v.2.2.1⟩
def i_breakPat_h : zH := fun i => if i = 5 then zL [(0, .vec yi64), (1, yi64), (6, yi64), (7, .bx yu64), (8, yu64), (9, yi64)] [zX 0 [(0, .vec yi64)]] else if i = 1070006 then zC [zN [(0, .vec yi64), (1, yi64), (6, yi64), (7, .bx yu64), (8, yu64), (9, yi64)]] else if i = 1080010 then zC [zN [(0, .vec yi64), (1, yi64), (6, yi64), (7, .bx yu64), (8, yu64), (9, yi64), (10, yi64)]] else if i = 1050007 then zC [zN [(0, .vec yi64), (1, yi64), (6, yi64), (7, .bx yu64), (8, yu64), (9, yi64)], zX 0 [(0, .vec yi64)]] else none
def i_breakPat_g : zG := [(70, i_nextPow_c), (71, i_xorNext_c)]
theorem i_breakPat_eq : EqS i_breakPat_c i_breakPat_g i_breakPat_h 65 Try.f52 [] [] := fun v => by kernel_rfl
def i_order2_c : Ctr := ⟨[.ro (.slice yi64), .ro yi64, .ro yi64, .mu (.bx yi64)], [.val yi64, .val yi64], fun v => Srt.order2 i_less v.1 v.2.1 v.2.2.1 v.2.2.2.1⟩
def i_order2_h : zH := fun i => if i = 1010004 then zC [zR [(3, .bx yi64), (8, yi64), (9, yi64)], zN [(1, yi64), (2, yi64), (3, .bx yi64)]] else none
def i_order2_g : zG := [(47, i_less_c)]
theorem i_order2_eq : EqS i_order2_c i_order2_g i_order2_h 28 Try.f77 [8, 9] [] := fun v => by kernel_rfl
def i_median_c : Ctr := ⟨[.ro (.slice yi64), .ro yi64, .ro yi64, .ro yi64, .mu (.bx yi64)], [.val yi64], fun v => Srt.median i_less v.1 v.2.1 v.2.2.1 v.2.2.2.1 v.2.2.2.2.1⟩
def i_median_h : zH := fun i => none
def i_median_g : zG := [(77, i_order2_c)]
theorem i_median_eq : EqS i_median_c i_median_g i_median_h 36 Try.f73 [10] [] := fun v => by kernel_rfl
def i_medianAdj_c : Ctr := ⟨[.ro (.slice yi64), .ro yi64, .mu (.bx yi64)], [.val yi64], fun v => Srt.medianAdj i_less v.1 v.2.1 v.2.2.1⟩
def i_medianAdj_h : zH := fun i => none
def i_medianAdj_g : zG := [(73, i_median_c)]
theorem i_medianAdj_eq : EqS i_medianAdj_c i_medianAdj_g i_medianAdj_h 15 Try.f72 [6] [] := fun v => by kernel_rfl
def i_choosePiv_c : Ctr := ⟨[.ro (.slice yi64), .ro yi64, .ro yi64], [.val yi64, .val yi64], fun v => Srt.choosePiv i_less v.1 v.2.1 v.2.2.1⟩
def i_choosePiv_h : zH := fun i => if i = 1060012 then zC [zN [(9, .bx yi64), (11, yi64)]] else if i = 1070011 then zC [zN [(0, .slice yi64), (9, .bx yi64), (10, yi64), (11, yi64), (12, yi64)]] else none
def i_choosePiv_g : zG := [(73, i_median_c), (72, i_medianAdj_c)]
theorem i_choosePiv_eq : EqS i_choosePiv_c i_choosePiv_g i_choosePiv_h 57 Try.f53 [6, 7] [] := fun v => by kernel_rfl
def i_revRange_c : Ctr := ⟨[.mu (.vec yi64), .ro yi64, .ro yi64], [], fun v => Srt.revRange v.1 v.2.1 v.2.2.1⟩
def i_revRange_h : zH := fun i => if i = 2 then zL [(0, .vec yi64), (6, yi64), (7, yi64)] [zX 0 [(0, .vec yi64)]] else if i = 1020003 then zC [zN [(0, .vec yi64), (6, yi64), (7, yi64)], zX 0 [(0, .vec yi64)]] else none
theorem i_revRange_eq : EqS i_revRange_c [] i_revRange_h 32 Try.f54 [] [] := fun v => by kernel_rfl
def i_partIns_c : Ctr := ⟨[.mu (.vec yi64), .ro yi64, .ro yi64], [.val .bool], fun v => Srt.partIns i_less v.1 v.2.1 v.2.2.1⟩
def i_partIns_h : zH := fun i => if i = 3 then zL [(0, .vec yi64), (1, yi64), (2, yi64), (7, yi64), (8, yi64)] [zR [(0, .vec yi64), (6, .bool)], zX 0 [(0, .vec yi64)]] else if i = 1050004 then zC [zR [(0, .vec yi64), (6, .bool)], zN [(0, .vec yi64), (1, yi64), (2, yi64), (7, yi64), (8, yi64)]] else if i = 20 then zL [(0, .vec yi64), (1, yi64), (2, yi64), (7, yi64), (8, yi64), (10, yi64)] [zX 6 [(0, .vec yi64), (1, yi64), (2, yi64), (7, yi64), (8, yi64)]] else if i = 1220021 then zC [zX 6 [(0, .vec yi64), (1, yi64), (2, yi64), (7, yi64), (8, yi64)], zN [(0, .vec yi64), (1, yi64), (2, yi64), (7, yi64), (8, yi64), (10, yi64)]] else if i = 1220023 then zC [zX 6 [(0, .vec yi64), (1, yi64), (2, yi64), (7, yi64), (8, yi64)], zN [(0, .vec yi64), (1, yi64), (2, yi64), (7, yi64), (8, yi64), (10, yi64)]] else if i = 1200022 then zC [zN [(0, .vec yi64), (1, yi64), (2, yi64), (7, yi64), (8, yi64), (10, yi64)], zX 6 [(0, .vec yi64), (1, yi64), (2, yi64), (7, yi64), (8, yi64)]] else if i = 1120018 then zC [zN [(0, .vec yi64), (1, yi64), (2, yi64), (7, yi64), (8, yi64)]] else if i = 14 then zL [(0, .vec yi64), (1, yi64), (2, yi64), (7, yi64), (8, yi64), (9, yi64)] [zX 4 [(0, .vec yi64), (1, yi64), (2, yi64), (7, yi64), (8, yi64)]] else if i = 1160015 then zC [zX 4 [(0, .vec yi64), (1, yi64), (2, yi64), (7, yi64), (8, yi64)], zN [(0, .vec yi64), (1, yi64), (2, yi64), (7, yi64), (8, yi64), (9, yi64)]] else if i = 1160017 then zC [zX 4 [(0, .vec yi64), (1, yi64), (2, yi64), (7, yi64), (8, yi64)], zN [(0, .vec yi64), (1, yi64), (2, yi64), (7, yi64), (8, yi64), (9, yi64)]] else if i = 1140016 then zC [zN [(0, .vec yi64), (1, yi64), (2, yi64), (7, yi64), (8, yi64), (9, yi64)], zX 4 [(0, .vec yi64), (1, yi64), (2, yi64), (7, yi64), (8, yi64)]] else if i = 1090011 then zC [zR [(0, .vec yi64), (6, .bool)], zN [(0, .vec yi64), (1, yi64), (2, yi64), (7, yi64), (8, yi64)]] else if i = 1070009 then zC [zR [(0, .vec yi64), (6, .bool)], zN [(0, .vec yi64), (1, yi64), (2, yi64), (7, yi64), (8, yi64)]] else if i = 1050007 then zC [zN [(0, .vec yi64), (1, yi64), (2, yi64), (7, yi64), (8, yi64)]] else if i = 5 then zL [(0, .vec yi64), (1, yi64), (2, yi64), (7, yi64), (8, yi64)] [zX 2 [(0, .vec yi64), (1, yi64), (2, yi64), (7, yi64), (8, yi64)]] else if i = 1050006 then zC [zN [(0, .vec yi64), (1, yi64), (2, yi64), (7, yi64), (8, yi64)], zX 2 [(0, .vec yi64), (1, yi64), (2, yi64), (7, yi64), (8, yi64)]] else if i = 1030005 then zC [zN [(0, .vec yi64), (1, yi64), (2, yi64), (7, yi64), (8, yi64)], zX 0 [(0, .vec yi64)]] else none
def i_partIns_g : zG := [(47, i_less_c)]
theorem i_partIns_eq : EqS i_partIns_c i_partIns_g i_partIns_h 133 Try.f55 [6] [] := fun v => by kernel_rfl
def i_partEq_c : Ctr := ⟨[.mu (.vec yi64), .ro yi64, .ro yi64, .ro yi64], [.val yi64], fun v => Srt.partEq i_less v.1 v.2.1 v.2.2.1 v.2.2.2.1⟩
def i_partEq_h : zH := fun i => if i = 100003 then zL [(0, .vec yi64), (1, yi64), (9, yi64), (10, yi64)] [zX 0 [(0, .vec yi64), (9, yi64)]] else if i = 1070008 then zC [zX 0 [(0, .vec yi64), (9, yi64)], zN [(0, .vec yi64), (1, yi64), (9, yi64), (10, yi64)]] else if i = 1050007 then zC [zN [(0, .vec yi64), (1, yi64), (9, yi64), (10, yi64)]] else if i = 5 then zL [(0, .vec yi64), (1, yi64), (9, yi64), (10, yi64)] [zX 4 [(0, .vec yi64), (1, yi64), (9, yi64), (10, yi64)]] else if i = 1050006 then zC [zN [(0, .vec yi64), (1, yi64), (9, yi64), (10, yi64)], zX 4 [(0, .vec yi64), (1, yi64), (9, yi64), (10, yi64)]] else if i = 1030005 then zC [zN [(0, .vec yi64), (1, yi64), (9, yi64), (10, yi64)]] else if i = 3 then zL [(0, .vec yi64), (1, yi64), (9, yi64), (10, yi64)] [zX 2 [(0, .vec yi64), (1, yi64), (9, yi64), (10, yi64)]] else if i = 1030004 then zC [zN [(0, .vec yi64), (1, yi64), (9, yi64), (10, yi64)], zX 2 [(0, .vec yi64), (1, yi64), (9, yi64), (10, yi64)]] else none
def i_partEq_g : zG := [(47, i_less_c)]
theorem i_partEq_eq : EqS i_partEq_c i_partEq_g i_partEq_h 84 Try.f56 [8] [] := fun v => by kernel_rfl
def i_partition_c : Ctr := ⟨[.mu (.vec yi64), .ro yi64, .ro yi64, .ro yi64], [.val yi64, .val .bool], fun v => Srt.partition i_less v.1 v.2.1 v.2.2.1 v.2.2.2.1⟩
def i_partition_h : zH := fun i => if i = 1130021 then zC [zN [(0, .vec yi64), (1, yi64), (11, yi64)]] else if i = 100013 then zL [(0, .vec yi64), (1, yi64), (10, yi64), (11, yi64)] [zX 4 [(0, .vec yi64), (1, yi64), (11, yi64)]] else if i = 1170018 then zC [zX 4 [(0, .vec yi64), (1, yi64), (11, yi64)], zN [(0, .vec yi64), (1, yi64), (10, yi64), (11, yi64)]] else if i = 1150017 then zC [zN [(0, .vec yi64), (1, yi64), (10, yi64), (11, yi64)]] else if i = 15 then zL [(0, .vec yi64), (1, yi64), (10, yi64), (11, yi64)] [zX 8 [(0, .vec yi64), (1, yi64), (10, yi64), (11, yi64)]] else if i = 1150016 then zC [zN [(0, .vec yi64), (1, yi64), (10, yi64), (11, yi64)], zX 8 [(0, .vec yi64), (1, yi64), (10, yi64), (11, yi64)]] else if i = 1130015 then zC [zN [(0, .vec yi64), (1, yi64), (10, yi64), (11, yi64)]] else if i = 13 then zL [(0, .vec yi64), (1, yi64), (10, yi64), (11, yi64)] [zX 6 [(0, .vec yi64), (1, yi64), (10, yi64), (11, yi64)]] else if i = 1130014 then zC [zN [(0, .vec yi64), (1, yi64), (10, yi64), (11, yi64)], zX 6 [(0, .vec yi64), (1, yi64), (10, yi64), (11, yi64)]] else if i = 1070010 then zC [zR [(0, .vec yi64), (8, yi64), (9, .bool)], zN [(0, .vec yi64), (1, yi64), (10, yi64), (11, yi64)]] else if i = 1050007 then zC [zN [(0, .vec yi64), (1, yi64), (10, yi64), (11, yi64)]] else if i = 5 then zL [(0, .vec yi64), (1, yi64), (10, yi64), (11, yi64)] [zX 2 [(0, .vec yi64), (1, yi64), (10, yi64), (11, yi64)]] else if i = 1050006 then zC [zN [(0, .vec yi64), (1, yi64), (10, yi64), (11, yi64)], zX 2 [(0, .vec yi64), (1, yi64), (10, yi64), (11, yi64)]] else if i = 1030005 then zC [zN [(0, .vec yi64), (1, yi64), (10, yi64), (11, yi64)]] else if i = 3 then zL [(0, .vec yi64), (1, yi64), (10, yi64), (11, yi64)] [zX 0 [(0, .vec yi64), (1, yi64), (10, yi64), (11, yi64)]] else if i = 1030004 then zC [zN [(0, .vec yi64), (1, yi64), (10, yi64), (11, yi64)], zX 0 [(0, .vec yi64), (1, yi64), (10, yi64), (11, yi64)]] else none
def i_partition_g : zG := [(47, i_less_c)]
theorem i_partition_eq : EqS i_partition_c i_partition_g i_partition_h 168 Try.f57 [8, 9] [] := fun v => by kernel_rfl
def i_pdq0_c (i_pdqR : List Int → Int → Int → Int → Option (List Int × Unit)) : Ctr := ⟨[.mu (.vec yi64), .ro yi64, .ro yi64, .ro yi64], [], fun v => Srt.pdq0 i_less i_pdqR v.1 v.2.1 v.2.2.1 v.2.2.2.1⟩
def i_pdq0_h : zH := fun i => if i = 2 then zL [(0, .vec yi64), (1, yi64), (2, yi64), (3, yi64), (8, .bool), (9, .bool)] [zR [(0, .vec yi64)]] else if i = 1170020 then zC [zX 1 [(0, .vec yi64), (1, yi64), (2, yi64), (3, yi64), (8, .bool), (9, .bool)], zN [(0, .vec yi64), (1, yi64), (2, yi64), (3, yi64), (10, yi64), (11, yi64)]] else if i = 1170018 then zC [zN [(0, .vec yi64), (1, yi64), (2, yi64), (3, yi64), (8, .bool), (9, .bool), (10, yi64), (11, yi64), (87, .bool)]] else if i = 1150017 then zC [zR [(0, .vec yi64)], zN [(0, .vec yi64), (1, yi64), (2, yi64), (3, yi64), (8, .bool), (9, .bool), (10, yi64), (11, yi64)]] else if i = 1150016 then zC [zN [(0, .vec yi64), (1, yi64), (2, yi64), (3, yi64), (8, .bool), (9, .bool), (10, yi64), (11, yi64), (68, .bool)]] else if i = 1110015 then zC [zN [(0, .vec yi64), (1, yi64), (2, yi64), (3, yi64), (8, .bool), (9, .bool), (10, yi64), (11, yi64), (12, yi64)]] else if i = 1070010 then zC [zN [(0, .vec yi64), (1, yi64), (2, yi64), (3, yi64), (8, .bool), (9, .bool), (10, yi64)]] else if i = 1050007 then zC [zR [(0, .vec yi64)], zN [(0, .vec yi64), (1, yi64), (2, yi64), (3, yi64), (8, .bool), (9, .bool), (10, yi64)]] else if i = 1030005 then zC [zR [(0, .vec yi64)], zN [(0, .vec yi64), (1, yi64), (2, yi64), (3, yi64), (8, .bool), (9, .bool), (10, yi64)]] else none
def i_pdq0_g (i_pdqR : List Int → Int → Int → Int → Option (List Int × Unit)) : List (Nat × Ctr) := [(47, i_less_c), (50, i_insSort_c), (51, i_heapSort_c), (52, i_breakPat_c), (53, i_choosePiv_c), (54, i_revRange_c), (55, i_partIns_c), (56, i_partEq_c), (57, i_partition_c), (44, (i_pdqR_cR i_pdqR))]
theorem i_pdq0_eq (i_pdqR : List Int → Int → Int → Int → Option (List Int × Unit)) (v : PDen (i_pdq0_c i_pdqR).ps) : semF tbl (gam (i_pdq0_g i_pdqR)) i_pdq0_h fuelN 134 (bodyOf Try.f44) [] (i_pdq0_c i_pdqR).ps (i_pdq0_c i_pdqR).rs [] [] v = (i_pdq0_c i_pdqR).g v := by kernel_rfl
def i_sortG_c (i_pdqR : List Int → Int → Int → Int → Option (List Int × Unit)) : Ctr := ⟨[.mu (.vec yi64)], [], fun v => Srt.sortG i_pdqR v.1⟩
def i_sortG_h : zH := fun i => none
def i_sortG_g (i_pdqR : List Int → Int → Int → Int → Option (List Int × Unit)) : List (Nat × Ctr) := [(45, i_bitsLen_c), (44, (i_pdqR_cR i_pdqR))]
theorem i_sortG_eq (i_pdqR : List Int → Int → Int → Int → Option (List Int × Unit)) (v : PDen (i_sortG_c i_pdqR).ps) : semF tbl (gam (i_sortG_g i_pdqR)) i_sortG_h fuelN 11 (bodyOf Try.f35) [] (i_sortG_c i_pdqR).ps (i_sortG_c i_pdqR).rs [] [] v = (i_sortG_c i_pdqR).g v := by kernel_rfl
def p_insSort_c : Ctr := ⟨[.mu y1, .ro yi64, .ro yi64, .ro (.clo 42 .unit)], [], fun v => Srt.insSort p_less v.1 v.2.1 v.2.2.1⟩
def p_insSort_h : zH := fun i => if i = 1 then some ⟨⟨[(0, y1), (1, yi64), (2, yi64), (8, yi64)], [(3, 42)], []⟩, [zX 0 [(0, y1)]]⟩ else if i = 1030002 then some ⟨⟨[], [], []⟩, [(.normal, ⟨[(0, y1), (1, yi64), (2, yi64), (8, yi64)], [(3, 42)], []⟩)]⟩ else if i = 4 then some ⟨⟨[(0, y1), (1, yi64), (2, yi64), (8, yi64), (9, yi64)], [(3, 42)], []⟩, [((.exit 2), ⟨[(0, y1), (1, yi64), (2, yi64), (8, yi64)], [(3, 42)], []⟩)]⟩ else if i = 1060005 then some ⟨⟨[], [], []⟩, [(.normal, ⟨[(0, y1), (1, yi64), (2, yi64), (8, yi64), (9, yi64)], [(3, 42)], []⟩)]⟩ else if i = 1040006 then some ⟨⟨[], [], []⟩, [(.normal, ⟨[(0, y1), (1, yi64), (2, yi64), (8, yi64), (9, yi64)], [(3, 42)], []⟩), ((.exit 2), ⟨[(0, y1), (1, yi64), (2, yi64), (8, yi64)], [(3, 42)], []⟩)]⟩ else if i = 1010003 then some ⟨⟨[], [], []⟩, [(.normal, ⟨[(0, y1), (1, yi64), (2, yi64), (8, yi64)], [(3, 42)], []⟩), zX 0 [(0, y1)]]⟩ else none
def p_insSort_g : zG := [(42, p_cmp_c)]
theorem p_insSort_eq : EqS p_insSort_c p_insSort_g p_insSort_h 53 Try.f61 [] [] := fun v => by kernel_rfl
def p_siftDown_c : Ctr := ⟨[.mu y1, .ro yi64, .ro yi64, .ro yi64, .ro (.clo 42 .unit)], [], fun v => Srt.siftDown p_less v.1 v.2.1 v.2.2.1 v.2.2.2.1⟩
def p_siftDown_h : zH := fun i => if i = 1 then some ⟨⟨[(0, y1), (2, yi64), (3, yi64), (10, yi64)], [(4, 42)], []⟩, [zX 0 [(0, y1)], zR [(0, y1)]]⟩ else if i = 1050006 then some ⟨⟨[], [], []⟩, [zR [(0, y1)], (.normal, ⟨[(0, y1), (2, yi64), (3, yi64), (10, yi64), (11, yi64)], [(4, 42)], []⟩)]⟩ else if i = 1030005 then some ⟨⟨[], [], []⟩, [(.normal, ⟨[(0, y1), (2, yi64), (3, yi64), (10, yi64), (11, yi64)], [(4, 42)], []⟩)]⟩ else if i = 1030004 then some ⟨⟨[], [], []⟩, [(.normal, ⟨[(0, y1), (2, yi64), (3, yi64), (10, yi64), (11, yi64), (40, .bool)], [(4, 42)], []⟩)]⟩ else if i = 1020003 then some ⟨⟨[], [], []⟩, [zX 0 [(0, y1)], (.normal, ⟨[(0, y1), (2, yi64), (3, yi64), (10, yi64), (11, yi64)], [(4, 42)], []⟩)]⟩ else none
def p_siftDown_g : zG := [(42, p_cmp_c)]
theorem p_siftDown_eq : EqS p_siftDown_c p_siftDown_g p_siftDown_h 82 Try.f74 [] [] := fun v => by kernel_rfl
def p_heapSort_c : Ctr := ⟨[.mu y1, .ro yi64, .ro yi64, .ro (.clo 42 .unit)], [], fun v => Srt.heapSort p_less v.1 v.2.1 v.2.2.1⟩
def p_heapSort_h : zH := fun i => if i = 8 then some ⟨⟨[(0, y1), (8, yi64), (9, yi64), (12, yi64)], [(3, 42)], []⟩, [zX 2 [(0, y1)]]⟩ else if i = 1100009 then some ⟨⟨[], [], []⟩, [(.normal, ⟨[(0, y1), (8, yi64), (9, yi64), (12, yi64)], [(3, 42)], []⟩)]⟩ else if i = 1080010 then some ⟨⟨[], [], []⟩, [(.normal, ⟨[(0, y1), (8, yi64), (9, yi64), (12, yi64)], [(3, 42)], []⟩), zX 2 [(0, y1)]]⟩ else if i = 1030007 then some ⟨⟨[], [], []⟩, [(.normal, ⟨[(0, y1), (8, yi64), (9, yi64), (10, yi64)], [(3, 42)], []⟩)]⟩ else if i = 4 then some ⟨⟨[(0, y1), (8, yi64), (9, yi64), (10, yi64), (11, yi64)], [(3, 42)], []⟩, [((.exit 0), ⟨[(0, y1), (8, yi64), (9, yi64), (10, yi64)], [(3, 42)], []⟩)]⟩ else if i = 1060005 then some ⟨⟨[], [], []⟩, [(.normal, ⟨[(0, y1), (8, yi64), (9, yi64), (10, yi64), (11, yi64)], [(3, 42)], []⟩)]⟩ else if i = 1040006 then some ⟨⟨[], [], []⟩, [(.normal, ⟨[(0, y1), (8, yi64), (9, yi64), (10, yi64), (11, yi64)], [(3, 42)], []⟩), ((.exit 0), ⟨[(0, y1), (8, yi64), (9, yi64), (10, yi64)], [(3, 42)], []⟩)]⟩ else none
def p_heapSort_g : zG := [(74, p_siftDown_c)]
theorem p_heapSort_eq : EqS p_heapSort_c p_heapSort_g p_heapSort_h 60 Try.f62 [] [] := fun v => by kernel_rfl
def p_breakPat_c : Ctr := ⟨[.mu y1, .ro yi64, .ro yi64, .ro (.clo 42 .unit)], [], fun v => Srt.breakPat v.1 v.2.1 v.2.2.1⟩
def p_breakPat_h : zH := fun i => if i = 5 then zL [(0, y1), (1, yi64), (8, yi64), (9, .bx yu64), (10, yu64), (11, yi64)] [zX 0 [(0, y1)]] else if i = 1070006 then zC [zN [(0, y1), (1, yi64), (8, yi64), (9, .bx yu64), (10, yu64), (11, yi64)]] else if i = 1080010 then zC [zN [(0, y1), (1, yi64), (8, yi64), (9, .bx yu64), (10, yu64), (11, yi64), (12, yi64)]] else if i = 1050007 then zC [zN [(0, y1), (1, yi64), (8, yi64), (9, .bx yu64), (10, yu64), (11, yi64)], zX 0 [(0, y1)]] else none
def p_breakPat_g : zG := [(70, i_nextPow_c), (71, i_xorNext_c)]
theorem p_breakPat_eq : EqS p_breakPat_c p_breakPat_g p_breakPat_h 67 Try.f63 [] [] := fun v => by kernel_rfl
def p_order2_c : Ctr := ⟨[.ro (.slice y2), .ro yi64, .ro yi64, .mu (.bx yi64), .ro (.clo 42 .unit)], [.val yi64, .val yi64], fun v => Srt.order2 p_less v.1 v.2.1 v.2.2.1 v.2.2.2.1⟩
def p_order2_h : zH := fun i => if i = 1010004 then zC [zR [(3, .bx yi64), (10, yi64), (11, yi64)], zN [(1, yi64), (2, yi64), (3, .bx yi64)]] else none
def p_order2_g : zG := [(42, p_cmp_c)]
theorem p_order2_eq : EqS p_order2_c p_order2_g p_order2_h 32 Try.f78 [10, 11] [] := fun v => by kernel_rfl
def p_median_c : Ctr := ⟨[.ro (.slice y2), .ro yi64, .ro yi64, .ro yi64, .mu (.bx yi64), .ro (.clo 42 .unit)], [.val yi64], fun v => Srt.median p_less v.1 v.2.1 v.2.2.1 v.2.2.2.1 v.2.2.2.2.1⟩
def p_median_h : zH := fun i => none
def p_median_g : zG := [(78, p_order2_c)]
theorem p_median_eq : EqS p_median_c p_median_g p_median_h 41 Try.f76 [12] [] := fun v => by kernel_rfl
def p_medianAdj_c : Ctr := ⟨[.ro (.slice y2), .ro yi64, .mu (.bx yi64), .ro (.clo 42 .unit)], [.val yi64], fun v => Srt.medianAdj p_less v.1 v.2.1 v.2.2.1⟩
def p_medianAdj_h : zH := fun i => none
def p_medianAdj_g : zG := [(76, p_median_c)]
theorem p_medianAdj_eq : EqS p_medianAdj_c p_medianAdj_g p_medianAdj_h 18 Try.f75 [8] [] := fun v => by kernel_rfl
def p_choosePiv_c : Ctr := ⟨[.ro (.slice y2), .ro yi64, .ro yi64, .ro (.clo 42 .unit)], [.val yi64, .val yi64], fun v => Srt.choosePiv p_less v.1 v.2.1 v.2.2.1⟩
def p_choosePiv_h : zH := fun i => if i = 1060012 then zC [zN [(11, .bx yi64), (13, yi64)]] else if i = 1070011 then some ⟨⟨[], [], []⟩, [(.normal, ⟨[(0, .slice y2), (11, .bx yi64), (12, yi64), (13, yi64), (14, yi64)], [(3, 42)], []⟩)]⟩ else none
def p_choosePiv_g : zG := [(76, p_median_c), (75, p_medianAdj_c)]
theorem p_choosePiv_eq : EqS p_choosePiv_c p_choosePiv_g p_choosePiv_h 63 Try.f64 [8, 9] [] := fun v => by kernel_rfl
def p_revRange_c : Ctr := ⟨[.mu y1, .ro yi64, .ro yi64, .ro (.clo 42 .unit)], [], fun v => Srt.revRange v.1 v.2.1 v.2.2.1⟩
def p_revRange_h : zH := fun i => if i = 2 then zL [(0, y1), (8, yi64), (9, yi64)] [zX 0 [(0, y1)]] else if i = 1020003 then zC [zN [(0, y1), (8, yi64), (9, yi64)], zX 0 [(0, y1)]] else none
theorem p_revRange_eq : EqS p_revRange_c [] p_revRange_h 34 Try.f65 [] [] := fun v => by kernel_rfl
def p_partIns_c : Ctr := ⟨[.mu y1, .ro yi64, .ro yi64, .ro (.clo 42 .unit)], [.val .bool], fun v => Srt.partIns p_less v.1 v.2.1 v.2.2.1⟩
def p_partIns_h : zH := fun i => if i = 3 then some ⟨⟨[(0, y1), (1, yi64), (2, yi64), (9, yi64), (10, yi64)], [(3, 42)], []⟩, [zR [(0, y1), (8, .bool)], zX 0 [(0, y1)]]⟩ else if i = 1050004 then some ⟨⟨[], [], []⟩, [zR [(0, y1), (8, .bool)], (.normal, ⟨[(0, y1), (1, yi64), (2, yi64), (9, yi64), (10, yi64)], [(3, 42)], []⟩)]⟩ else if i = 20 then some ⟨⟨[(0, y1), (1, yi64), (2, yi64), (9, yi64), (10, yi64), (12, yi64)], [(3, 42)], []⟩, [((.exit 6), ⟨[(0, y1), (1, yi64), (2, yi64), (9, yi64), (10, yi64)], [(3, 42)], []⟩)]⟩ else if i = 1220021 then some ⟨⟨[], [], []⟩, [((.exit 6), ⟨[(0, y1), (1, yi64), (2, yi64), (9, yi64), (10, yi64)], [(3, 42)], []⟩), (.normal, ⟨[(0, y1), (1, yi64), (2, yi64), (9, yi64), (10, yi64), (12, yi64)], [(3, 42)], []⟩)]⟩ else if i = 1220023 then some ⟨⟨[], [], []⟩, [((.exit 6), ⟨[(0, y1), (1, yi64), (2, yi64), (9, yi64), (10, yi64)], [(3, 42)], []⟩), (.normal, ⟨[(0, y1), (1, yi64), (2, yi64), (9, yi64), (10, yi64), (12, yi64)], [(3, 42)], []⟩)]⟩ else if i = 1200022 then some ⟨⟨[], [], []⟩, [(.normal, ⟨[(0, y1), (1, yi64), (2, yi64), (9, yi64), (10, yi64), (12, yi64)], [(3, 42)], []⟩), ((.exit 6), ⟨[(0, y1), (1, yi64), (2, yi64), (9, yi64), (10, yi64)], [(3, 42)], []⟩)]⟩ else if i = 1120018 then some ⟨⟨[], [], []⟩, [(.normal, ⟨[(0, y1), (1, yi64), (2, yi64), (9, yi64), (10, yi64)], [(3, 42)], []⟩)]⟩ else if i = 14 then some ⟨⟨[(0, y1), (1, yi64), (2, yi64), (9, yi64), (10, yi64), (11, yi64)], [(3, 42)], []⟩, [((.exit 4), ⟨[(0, y1), (1, yi64), (2, yi64), (9, yi64), (10, yi64)], [(3, 42)], []⟩)]⟩ else if i = 1160015 then some ⟨⟨[], [], []⟩, [((.exit 4), ⟨[(0, y1), (1, yi64), (2, yi64), (9, yi64), (10, yi64)], [(3, 42)], []⟩), (.normal, ⟨[(0, y1), (1, yi64), (2, yi64), (9, yi64), (10, yi64), (11, yi64)], [(3, 42)], []⟩)]⟩ else if i = 1160017 then some ⟨⟨[], [], []⟩, [((.exit 4), ⟨[(0, y1), (1, yi64), (2, yi64), (9, yi64), (10, yi64)], [(3, 42)], []⟩), (.normal, ⟨[(0, y1), (1, yi64), (2, yi64), (9, yi64), (10, yi64), (11, yi64)], [(3, 42)], []⟩)]⟩ else if i = 1140016 then some ⟨⟨[], [], []⟩, [(.normal, ⟨[(0, y1), (1, yi64), (2, yi64), (9, yi64), (10, yi64), (11, yi64)], [(3, 42)], []⟩), ((.exit 4), ⟨[(0, y1), (1, yi64), (2, yi64), (9, yi64), (10, yi64)], [(3, 42)], []⟩)]⟩ else if i = 1090011 then some ⟨⟨[], [], []⟩, [zR [(0, y1), (8, .bool)], (.normal, ⟨[(0, y1), (1, yi64), (2, yi64), (9, yi64), (10, yi64)], [(3, 42)], []⟩)]⟩ else if i = 1070009 then some ⟨⟨[], [], []⟩, [zR [(0, y1), (8, .bool)], (.normal, ⟨[(0, y1), (1, yi64), (2, yi64), (9, yi64), (10, yi64)], [(3, 42)], []⟩)]⟩ else if i = 1050007 then some ⟨⟨[], [], []⟩, [(.normal, ⟨[(0, y1), (1, yi64), (2, yi64), (9, yi64), (10, yi64)], [(3, 42)], []⟩)]⟩ else if i = 5 then some ⟨⟨[(0, y1), (1, yi64), (2, yi64), (9, yi64), (10, yi64)], [(3, 42)], []⟩, [((.exit 2), ⟨[(0, y1), (1, yi64), (2, yi64), (9, yi64), (10, yi64)], [(3, 42)], []⟩)]⟩ else if i = 1050006 then some ⟨⟨[], [], []⟩, [(.normal, ⟨[(0, y1), (1, yi64), (2, yi64), (9, yi64), (10, yi64)], [(3, 42)], []⟩), ((.exit 2), ⟨[(0, y1), (1, yi64), (2, yi64), (9, yi64), (10, yi64)], [(3, 42)], []⟩)]⟩ else if i = 1030005 then some ⟨⟨[], [], []⟩, [(.normal, ⟨[(0, y1), (1, yi64), (2, yi64), (9, yi64), (10, yi64)], [(3, 42)], []⟩), zX 0 [(0, y1)]]⟩ else none
def p_partIns_g : zG := [(42, p_cmp_c)]
theorem p_partIns_eq : EqS p_partIns_c p_partIns_g p_partIns_h 141 Try.f66 [8] [] := fun v => by kernel_rfl
def p_partEq_c : Ctr := ⟨[.mu y1, .ro yi64, .ro yi64, .ro yi64, .ro (.clo 42 .unit)], [.val yi64], fun v => Srt.partEq p_less v.1 v.2.1 v.2.2.1 v.2.2.2.1⟩
def p_partEq_h : zH := fun i => if i = 100003 then some ⟨⟨[(0, y1), (1, yi64), (11, yi64), (12, yi64)], [(4, 42)], []⟩, [zX 0 [(0, y1), (11, yi64)]]⟩ else if i = 1070008 then some ⟨⟨[], [], []⟩, [zX 0 [(0, y1), (11, yi64)], (.normal, ⟨[(0, y1), (1, yi64), (11, yi64), (12, yi64)], [(4, 42)], []⟩)]⟩ else if i = 1050007 then some ⟨⟨[], [], []⟩, [(.normal, ⟨[(0, y1), (1, yi64), (11, yi64), (12, yi64)], [(4, 42)], []⟩)]⟩ else if i = 5 then some ⟨⟨[(0, y1), (1, yi64), (11, yi64), (12, yi64)], [(4, 42)], []⟩, [((.exit 4), ⟨[(0, y1), (1, yi64), (11, yi64), (12, yi64)], [(4, 42)], []⟩)]⟩ else if i = 1050006 then some ⟨⟨[], [], []⟩, [(.normal, ⟨[(0, y1), (1, yi64), (11, yi64), (12, yi64)], [(4, 42)], []⟩), ((.exit 4), ⟨[(0, y1), (1, yi64), (11, yi64), (12, yi64)], [(4, 42)], []⟩)]⟩ else if i = 1030005 then some ⟨⟨[], [], []⟩, [(.normal, ⟨[(0, y1), (1, yi64), (11, yi64), (12, yi64)], [(4, 42)], []⟩)]⟩ else if i = 3 then some ⟨⟨[(0, y1), (1, yi64), (11, yi64), (12, yi64)], [(4, 42)], []⟩, [((.exit 2), ⟨[(0, y1), (1, yi64), (11, yi64), (12, yi64)], [(4, 42)], []⟩)]⟩ else if i = 1030004 then some ⟨⟨[], [], []⟩, [(.normal, ⟨[(0, y1), (1, yi64), (11, yi64), (12, yi64)], [(4, 42)], []⟩), ((.exit 2), ⟨[(0, y1), (1, yi64), (11, yi64), (12, yi64)], [(4, 42)], []⟩)]⟩ else none
def p_partEq_g : zG := [(42, p_cmp_c)]
theorem p_partEq_eq : EqS p_partEq_c p_partEq_g p_partEq_h 90 Try.f67 [10] [] := fun v => by kernel_rfl
def p_partition_c : Ctr := ⟨[.mu y1, .ro yi64, .ro yi64, .ro yi64, .ro (.clo 42 .unit)], [.val yi64, .val .bool], fun v => Srt.partition p_less v.1 v.2.1 v.2.2.1 v.2.2.2.1⟩
def p_partition_h : zH := fun i => if i = 1130021 then zC [zN [(0, y1), (1, yi64), (13, yi64)]] else if i = 100013 then some ⟨⟨[(0, y1), (1, yi64), (12, yi64), (13, yi64)], [(4, 42)], []⟩, [zX 4 [(0, y1), (1, yi64), (13, yi64)]]⟩ else if i = 1170018 then some ⟨⟨[], [], []⟩, [zX 4 [(0, y1), (1, yi64), (13, yi64)], (.normal, ⟨[(0, y1), (1, yi64), (12, yi64), (13, yi64)], [(4, 42)], []⟩)]⟩ else if i = 1150017 then some ⟨⟨[], [], []⟩, [(.normal, ⟨[(0, y1), (1, yi64), (12, yi64), (13, yi64)], [(4, 42)], []⟩)]⟩ else if i = 15 then some ⟨⟨[(0, y1), (1, yi64), (12, yi64), (13, yi64)], [(4, 42)], []⟩, [((.exit 8), ⟨[(0, y1), (1, yi64), (12, yi64), (13, yi64)], [(4, 42)], []⟩)]⟩ else if i = 1150016 then some ⟨⟨[], [], []⟩, [(.normal, ⟨[(0, y1), (1, yi64), (12, yi64), (13, yi64)], [(4, 42)], []⟩), ((.exit 8), ⟨[(0, y1), (1, yi64), (12, yi64), (13, yi64)], [(4, 42)], []⟩)]⟩ else if i = 1130015 then some ⟨⟨[], [], []⟩, [(.normal, ⟨[(0, y1), (1, yi64), (12, yi64), (13, yi64)], [(4, 42)], []⟩)]⟩ else if i = 13 then some ⟨⟨[(0, y1), (1, yi64), (12, yi64), (13, yi64)], [(4, 42)], []⟩, [((.exit 6), ⟨[(0, y1), (1, yi64), (12, yi64), (13, yi64)], [(4, 42)], []⟩)]⟩ else if i = 1130014 then some ⟨⟨[], [], []⟩, [(.normal, ⟨[(0, y1), (1, yi64), (12, yi64), (13, yi64)], [(4, 42)], []⟩), ((.exit 6), ⟨[(0, y1), (1, yi64), (12, yi64), (13, yi64)], [(4, 42)], []⟩)]⟩ else if i = 1070010 then some ⟨⟨[], [], []⟩, [zR [(0, y1), (10, yi64), (11, .bool)], (.normal, ⟨[(0, y1), (1, yi64), (12, yi64), (13, yi64)], [(4, 42)], []⟩)]⟩ else if i = 1050007 then some ⟨⟨[], [], []⟩, [(.normal, ⟨[(0, y1), (1, yi64), (12, yi64), (13, yi64)], [(4, 42)], []⟩)]⟩ else if i = 5 then some ⟨⟨[(0, y1), (1, yi64), (12, yi64), (13, yi64)], [(4, 42)], []⟩, [((.exit 2), ⟨[(0, y1), (1, yi64), (12, yi64), (13, yi64)], [(4, 42)], []⟩)]⟩ else if i = 1050006 then some ⟨⟨[], [], []⟩, [(.normal, ⟨[(0, y1), (1, yi64), (12, yi64), (13, yi64)], [(4, 42)], []⟩), ((.exit 2), ⟨[(0, y1), (1, yi64), (12, yi64), (13, yi64)], [(4, 42)], []⟩)]⟩ else if i = 1030005 then some ⟨⟨[], [], []⟩, [(.normal, ⟨[(0, y1), (1, yi64), (12, yi64), (13, yi64)], [(4, 42)], []⟩)]⟩ else if i = 3 then some ⟨⟨[(0, y1), (1, yi64), (12, yi64), (13, yi64)], [(4, 42)], []⟩, [((.exit 0), ⟨[(0, y1), (1, yi64), (12, yi64), (13, yi64)], [(4, 42)], []⟩)]⟩ else if i = 1030004 then some ⟨⟨[], [], []⟩, [(.normal, ⟨[(0, y1), (1, yi64), (12, yi64), (13, yi64)], [(4, 42)], []⟩), ((.exit 0), ⟨[(0, y1), (1, yi64), (12, yi64), (13, yi64)], [(4, 42)], []⟩)]⟩ else none
def p_partition_g : zG := [(42, p_cmp_c)]
theorem p_partition_eq : EqS p_partition_c p_partition_g p_partition_h 178 Try.f68 [10, 11] [] := fun v => by kernel_rfl
def p_pdq0_c (p_pdqR : List (Int × Option (Nat × Nat × Nat)) → Int → Int → Int → Option (List (Int × Option (Nat × Nat × Nat)) × Unit)) : Ctr := ⟨[.mu y1, .ro yi64, .ro yi64, .ro yi64, .ro (.clo 42 .unit)], [], fun v => Srt.pdq0 p_less p_pdqR v.1 v.2.1 v.2.2.1 v.2.2.2.1⟩
def p_pdq0_h : zH := fun i => if i = 2 then some ⟨⟨[(0, y1), (1, yi64), (2, yi64), (3, yi64), (10, .bool), (11, .bool)], [(4, 42)], []⟩, [zR [(0, y1)]]⟩ else if i = 1170020 then some ⟨⟨[], [], []⟩, [((.exit 1), ⟨[(0, y1), (1, yi64), (2, yi64), (3, yi64), (10, .bool), (11, .bool)], [(4, 42)], []⟩), (.normal, ⟨[(0, y1), (1, yi64), (2, yi64), (3, yi64), (12, yi64), (13, yi64)], [(4, 42)], []⟩)]⟩ else if i = 1170018 then some ⟨⟨[], [], []⟩, [(.normal, ⟨[(0, y1), (1, yi64), (2, yi64), (3, yi64), (10, .bool), (11, .bool), (12, yi64), (13, yi64), (97, .bool)], [(4, 42)], []⟩)]⟩ else if i = 1150017 then some ⟨⟨[], [], []⟩, [zR [(0, y1)], (.normal, ⟨[(0, y1), (1, yi64), (2, yi64), (3, yi64), (10, .bool), (11, .bool), (12, yi64), (13, yi64)], [(4, 42)], []⟩)]⟩ else if i = 1150016 then some ⟨⟨[], [], []⟩, [(.normal, ⟨[(0, y1), (1, yi64), (2, yi64), (3, yi64), (10, .bool), (11, .bool), (12, yi64), (13, yi64), (75, .bool)], [(4, 42)], []⟩)]⟩ else if i = 1110015 then some ⟨⟨[], [], []⟩, [(.normal, ⟨[(0, y1), (1, yi64), (2, yi64), (3, yi64), (10, .bool), (11, .bool), (12, yi64), (13, yi64), (14, yi64)], [(4, 42)], []⟩)]⟩ else if i = 1070010 then some ⟨⟨[], [], []⟩, [(.normal, ⟨[(0, y1), (1, yi64), (2, yi64), (3, yi64), (10, .bool), (11, .bool), (12, yi64)], [(4, 42)], []⟩)]⟩ else if i = 1050007 then some ⟨⟨[], [], []⟩, [zR [(0, y1)], (.normal, ⟨[(0, y1), (1, yi64), (2, yi64), (3, yi64), (10, .bool), (11, .bool), (12, yi64)], [(4, 42)], []⟩)]⟩ else if i = 1030005 then some ⟨⟨[], [], []⟩, [zR [(0, y1)], (.normal, ⟨[(0, y1), (1, yi64), (2, yi64), (3, yi64), (10, .bool), (11, .bool), (12, yi64)], [(4, 42)], []⟩)]⟩ else none
def p_pdq0_g (p_pdqR : List (Int × Option (Nat × Nat × Nat)) → Int → Int → Int → Option (List (Int × Option (Nat × Nat × Nat)) × Unit)) : List (Nat × Ctr) := [(42, p_cmp_c), (61, p_insSort_c), (62, p_heapSort_c), (63, p_breakPat_c), (64, p_choosePiv_c), (65, p_revRange_c), (66, p_partIns_c), (67, p_partEq_c), (68, p_partition_c), (49, (p_pdqR_cR p_pdqR))]
theorem p_pdq0_eq (p_pdqR : List (Int × Option (Nat × Nat × Nat)) → Int → Int → Int → Option (List (Int × Option (Nat × Nat × Nat)) × Unit)) (v : PDen (p_pdq0_c p_pdqR).ps) : semF tbl (gam (p_pdq0_g p_pdqR)) p_pdq0_h fuelN 148 (bodyOf Try.f49) [] (p_pdq0_c p_pdqR).ps (p_pdq0_c p_pdqR).rs [] [] v = (p_pdq0_c p_pdqR).g v := by kernel_rfl
def p_sortG_c (p_pdqR : List (Int × Option (Nat × Nat × Nat)) → Int → Int → Int → Option (List (Int × Option (Nat × Nat × Nat)) × Unit)) : Ctr := ⟨[.mu y1, .ro (.clo 42 .unit)], [], fun v => Srt.sortG p_pdqR v.1⟩
def p_sortG_h : zH := fun i => none
def p_sortG_g (p_pdqR : List (Int × Option (Nat × Nat × Nat)) → Int → Int → Int → Option (List (Int × Option (Nat × Nat × Nat)) × Unit)) : List (Nat × Ctr) := [(45, i_bitsLen_c), (49, (p_pdqR_cR p_pdqR))]
theorem p_sortG_eq (p_pdqR : List (Int × Option (Nat × Nat × Nat)) → Int → Int → Int → Option (List (Int × Option (Nat × Nat × Nat)) × Unit)) (v : PDen (p_sortG_c p_pdqR).ps) : semF tbl (gam (p_sortG_g p_pdqR)) p_sortG_h fuelN 14 (bodyOf Try.f41) [] (p_sortG_c p_pdqR).ps (p_sortG_c p_pdqR).rs [] [] v = (p_sortG_c p_pdqR).g v := by kernel_rfl
section
variable [Inhabited FuelW]
def refSorted0_s8 (a3 : List Int) (a4 : List Int) (a5 : List Int) (a6 : Int) (a7 : Int) : Option ((List Int × List Int × List Int × Int × Int × Unit) ⊕ (List Int × Unit)) :=
 ((show Option ((List Int × List Int × List Int × Int × Int × Unit) ⊕ (List Int × Unit)) from
 bif (decide (a6 < (a3.length : Int))) then
 some (.inl (a3, a4, a5, a6, a7, ()))
 else
 bif (decide (a7 < (a4.length : Int))) then
 some (.inl (a3, a4, a5, a6, a7, ()))
 else
 some (.inr (a5, ()))).bind fun y10 =>
 (match y10 with
 | .inl y10 =>
 ((show Option (List Int × List Int × List Int × Int × Int × Int × Unit) from
 ((show Option (List Int × List Int × List Int × Int × Int × Bool × Unit) from
 bif (y10.2.2.2.2.1 == (y10.2.1.length : Int)) then
 some (y10.1, y10.2.1, y10.2.2.1, y10.2.2.2.1, y10.2.2.2.2.1, true, ())
 else
 bif (decide (y10.2.2.2.1 < (y10.1.length : Int))) then
 ((lk y10.1 y10.2.2.2.1).bind fun x13 =>
 ((lk y10.2.1 y10.2.2.2.2.1).bind fun x14 =>
 some (y10.1, y10.2.1, y10.2.2.1, y10.2.2.2.1, y10.2.2.2.2.1, (decide (x13 ≤ x14)), ())))
 else
 some (y10.1, y10.2.1, y10.2.2.1, y10.2.2.2.1, y10.2.2.2.2.1, false, ())).bind fun y15 =>
 bif y15.2.2.2.2.2.1 then
 ((lk y15.1 y15.2.2.2.1).bind fun x16 =>
 some (y15.1, y15.2.1, y15.2.2.1, (IntKind.i64.wrap (y15.2.2.2.1 + 1)), y15.2.2.2.2.1, x16, ()))
 else
 ((lk y15.2.1 y15.2.2.2.2.1).bind fun x17 =>
 some (y15.1, y15.2.1, y15.2.2.1, y15.2.2.2.1, (IntKind.i64.wrap (y15.2.2.2.2.1 + 1)), x17, ())))).bind fun y18 =>
 ((show Option (List Int × List Int × List Int × Int × Int × Int × Bool × Unit) from
 bif ((y18.2.2.1.length : Int) == 0) then
 some (y18.1, y18.2.1, y18.2.2.1, y18.2.2.2.1, y18.2.2.2.2.1, y18.2.2.2.2.2.1, true, ())
 else
 ((lk y18.2.2.1 (IntKind.i64.wrap ((y18.2.2.1.length : Int) - 1))).bind fun _x20 =>
 ((lk y18.2.2.1 (IntKind.i64.wrap ((y18.2.2.1.length : Int) - 1))).bind fun x21 =>
 some (y18.1, y18.2.1, y18.2.2.1, y18.2.2.2.1, y18.2.2.2.2.1, y18.2.2.2.2.2.1, (x21 != y18.2.2.2.2.2.1), ())))).bind fun y22 =>
 bif y22.2.2.2.2.2.2.1 then
 bif (roomOk (y22.2.2.1.length + [y22.2.2.2.2.2.1].length) 8) then
 some (.inl (y22.1, y22.2.1, (y22.2.2.1 ++ [y22.2.2.2.2.2.1]), y22.2.2.2.1, y22.2.2.2.2.1, ()))
 else none
 else
 some (.inl (y22.1, y22.2.1, y22.2.2.1, y22.2.2.2.1, y22.2.2.2.2.1, ()))))
 | .inr y10 =>
 some (.inr (y10.1, ()))))
def refSorted0 (refSorted : List Int → Option (Unit × List Int × Unit)) (p0 : List Int) : Option (Unit × List Int × Unit) :=
 ((show Option ((List Int × Unit) ⊕ (List Int × Unit)) from
 bif (decide ((p0.length : Int) < 2)) then
 some (.inl (p0, ()))
 else
 some (.inr (p0, ()))).bind fun y2 =>
 (match y2 with
 | .inl y2 =>
 some ((), y2.1, ())
 | .inr y2 =>
 bif ((2 : Int) != 0) then
 bif (inB (0 : Int) (IntKind.i64.wrap (Int.tdiv (y2.1.length : Int) (2 : Int))) y2.1.length) then
 let v3 := (cut y2.1 (0 : Int) (IntKind.i64.wrap (Int.tdiv (y2.1.length : Int) (2 : Int))))
 ((refSorted v3).bind fun r4 =>
 bif ((2 : Int) != 0) then
 bif (inB (IntKind.i64.wrap (Int.tdiv (y2.1.length : Int) (2 : Int))) (y2.1.length : Int) y2.1.length) then
 let v5 := (cut y2.1 (IntKind.i64.wrap (Int.tdiv (y2.1.length : Int) (2 : Int))) (y2.1.length : Int))
 ((refSorted v5).bind fun r6 =>
 ((iterN (fun x => refSorted0_s8 x.1 x.2.1 x.2.2.1 x.2.2.2.1 x.2.2.2.2.1) fuN (r4.2.1, r6.2.1, ([] : List Int), (0 : Int), (0 : Int), ())).bind fun y23 =>
 some ((), y23.1, ())))
 else none
 else none)
 else none
 else none))
def refSorted0_c (refSorted : List Int → Option (Unit × List Int × Unit)) : Ctr := ⟨[.ro (.slice yi64)], [.val (.slice yi64)], fun v => refSorted0 refSorted v.1⟩
def refSorted0_h : zH := fun i => if i = 6 then zL [(3, .slice yi64), (4, .slice yi64), (5, .vec yi64), (6, yi64), (7, yi64)] [zX 0 [(5, .vec yi64)]] else if i = 1130014 then zC [zN [(3, .slice yi64), (4, .slice yi64), (5, .vec yi64), (6, yi64), (7, yi64), (8, yi64), (80, .bool)]] else if i = 1080013 then zC [zN [(3, .slice yi64), (4, .slice yi64), (5, .vec yi64), (6, yi64), (7, yi64), (8, yi64)]] else if i = 1080009 then zC [zN [(3, .slice yi64), (4, .slice yi64), (5, .vec yi64), (6, yi64), (7, yi64), (55, .bool)]] else if i = 1060007 then zC [zN [(3, .slice yi64), (4, .slice yi64), (5, .vec yi64), (6, yi64), (7, yi64)], zX 0 [(5, .vec yi64)]] else if i = 1010003 then zC [zR [(2, .slice yi64)], zN [(0, .slice yi64)]] else none
def refSorted0_g (refSorted : List Int → Option (Unit × List Int × Unit)) : List (Nat × Ctr) := [(27, (refSorted_cR refSorted))]
theorem refSorted0_eq (refSorted : List Int → Option (Unit × List Int × Unit)) (v : PDen (refSorted0_c refSorted).ps) : semF tbl (gam (refSorted0_g refSorted)) refSorted0_h fuN 86 (bodyOf Try.f27) [] (refSorted0_c refSorted).ps (refSorted0_c refSorted).rs [2] [] v = (refSorted0_c refSorted).g v := by kernel_rfl
def refSortedN : Nat → List Int → Option (Unit × List Int × Unit)
  | 0 => fun _ => none
  | k + 1 => refSorted0 (refSortedN k)
def refSorted (l : List Int) : Option (Unit × List Int × Unit) := refSortedN (l.length + 1) l
def refSorted_c : Ctr := refSorted_cR refSorted
def refNumbers_s8 (a0 : tP) (a1 : Int) (a5 : List Int) (a6 : Int) (a7 : Int) : Option ((tP × Int × List Int × Int × Int × Unit) ⊕ (tP × Int × List Int × Int × Unit)) :=
 ((show Option ((tP × Int × List Int × Int × Int × Unit) ⊕ (tP × Int × List Int × Int × Unit)) from
 ((lk a0 a6).bind fun x10 =>
 bif (decide (a7 < (x10.2.length : Int))) then
 ((lk a0 a6).bind fun x11 =>
 bif (x11.1 == a1) then
 some (.inl (a0, a1, a5, a6, a7, ()))
 else
 some (.inr (a0, a1, a5, a6, ())))
 else
 some (.inr (a0, a1, a5, a6, ())))).bind fun y12 =>
 (match y12 with
 | .inl y12 =>
 ((show Option (tP × Int × List Int × Int × Int × Unit) from
 ((lk y12.1 y12.2.2.2.1).bind fun x14 =>
 ((lk x14.2 y12.2.2.2.2.1).bind fun x15 =>
 bif (decide (x15 ≥ 0)) then
 ((lk y12.1 y12.2.2.2.1).bind fun x16 =>
 ((lk x16.2 y12.2.2.2.2.1).bind fun x17 =>
 bif (roomOk (y12.2.2.1.length + [x17].length) 8) then
 some (y12.1, y12.2.1, (y12.2.2.1 ++ [x17]), y12.2.2.2.1, y12.2.2.2.2.1, ())
 else none))
 else
 some (y12.1, y12.2.1, y12.2.2.1, y12.2.2.2.1, y12.2.2.2.2.1, ())))).bind fun y18 =>
 some (.inl (y18.1, y18.2.1, y18.2.2.1, y18.2.2.2.1, (IntKind.i64.wrap (y18.2.2.2.2.1 + 1)), ())))
 | .inr y12 =>
 some (.inr (y12.1, y12.2.1, y12.2.2.1, y12.2.2.2.1, ()))))
def refNumbers_s3 (a0 : tP) (a1 : Int) (a5 : List Int) (a6 : Int) : Option ((tP × Int × List Int × Int × Unit) ⊕ (List Int × Unit)) :=
 ((show Option ((tP × Int × List Int × Int × Unit) ⊕ (List Int × Unit)) from
 bif (decide (a6 < (a0.length : Int))) then
 some (.inl (a0, a1, a5, a6, ()))
 else
 some (.inr (a5, ()))).bind fun y5 =>
 (match y5 with
 | .inl y5 =>
 ((show Option (tP × Int × List Int × Int × Unit) from
 ((iterN (fun x => refNumbers_s8 x.1 x.2.1 x.2.2.1 x.2.2.2.1 x.2.2.2.2.1) fuN (y5.1, y5.2.1, y5.2.2.1, y5.2.2.2.1, (0 : Int), ())).bind fun y19 =>
 some (y19.1, y19.2.1, y19.2.2.1, y19.2.2.2.1, ()))).bind fun y20 =>
 some (.inl (y20.1, y20.2.1, y20.2.2.1, (IntKind.i64.wrap (y20.2.2.2.1 + 1)), ())))
 | .inr y5 =>
 some (.inr (y5.1, ()))))
def refNumbers (p0 : tP) (p1 : Int) : Option (Unit × List Int × Unit) :=
 ((show Option (List Int × Unit) from
 ((iterN (fun x => refNumbers_s3 x.1 x.2.1 x.2.2.1 x.2.2.2.1) fuN (p0, p1, ([] : List Int), (0 : Int), ())).bind fun y21 =>
 some (y21.1, ()))).bind fun y22 =>
 ((refSorted y22.1).bind fun r23 =>
 some ((), r23.2.1, ())))
def refNumbers_c : Ctr := ⟨[.ro s0, .ro yi64], [.val (.slice yi64)], fun v => refNumbers v.1 v.2.1⟩
def refNumbers_h : zH := fun i => if i = 1020010 then zC [zN [(5, .vec yi64)]] else if i = 3 then zL [(0, s0), (1, yi64), (5, .vec yi64), (6, yi64)] [zX 0 [(5, .vec yi64)]] else if i = 1050004 then zC [zN [(0, s0), (1, yi64), (5, .vec yi64), (6, yi64)]] else if i = 6 then zL [(0, s0), (1, yi64), (5, .vec yi64), (6, yi64), (7, yi64)] [zX 2 [(0, s0), (1, yi64), (5, .vec yi64), (6, yi64)]] else if i = 1080007 then zC [zN [(0, s0), (1, yi64), (5, .vec yi64), (6, yi64), (7, yi64)]] else if i = 1060008 then zC [zN [(0, s0), (1, yi64), (5, .vec yi64), (6, yi64), (7, yi64)], zX 2 [(0, s0), (1, yi64), (5, .vec yi64), (6, yi64)]] else if i = 1030005 then zC [zN [(0, s0), (1, yi64), (5, .vec yi64), (6, yi64)], zX 0 [(5, .vec yi64)]] else none
def refNumbers_g : zG := [(27, refSorted_c)]
theorem refNumbers_eq : EqB refNumbers_c refNumbers_g refNumbers_h 55 Try.f28 [4] [] := fun v => by kernel_rfl
def refNorm_s3 (a0 : tP) (a3 : List Int) (a4 : Int) : Option ((tP × List Int × Int × Unit) ⊕ (tP × List Int × Unit)) :=
 ((show Option ((tP × List Int × Int × Unit) ⊕ (tP × List Int × Unit)) from
 bif (decide (a4 < (a0.length : Int))) then
 some (.inl (a0, a3, a4, ()))
 else
 some (.inr (a0, a3, ()))).bind fun y5 =>
 (match y5 with
 | .inl y5 =>
 ((show Option (tP × List Int × Int × Unit) from
 ((lk y5.1 y5.2.2.1).bind fun x7 =>
 bif (decide (x7.1 ≥ 0)) then
 ((lk y5.1 y5.2.2.1).bind fun x8 =>
 bif (roomOk (y5.2.1.length + [x8.1].length) 8) then
 some (y5.1, (y5.2.1 ++ [x8.1]), y5.2.2.1, ())
 else none)
 else
 some (y5.1, y5.2.1, y5.2.2.1, ()))).bind fun y9 =>
 some (.inl (y9.1, y9.2.1, (IntKind.i64.wrap (y9.2.2.1 + 1)), ())))
 | .inr y5 =>
 some (.inr (y5.1, y5.2.1, ()))))
def refNorm_s14 (a0 : tP) (a3 : List Int) (a5 : tP) (a6 : Int) : Option ((tP × List Int × tP × Int × Unit) ⊕ (tP × Unit)) :=
 ((show Option ((tP × List Int × tP × Int × Unit) ⊕ (tP × Unit)) from
 bif (decide (a6 < (a3.length : Int))) then
 some (.inl (a0, a3, a5, a6, ()))
 else
 some (.inr (a5, ()))).bind fun y16 =>
 (match y16 with
 | .inl y16 =>
 ((show Option (tP × List Int × tP × Int × Unit) from
 ((lk y16.2.1 y16.2.2.2.1).bind fun x18 =>
 ((refNumbers y16.1 x18).bind fun r19 =>
 bif (decide ((r19.2.1.length : Int) > 0)) then
 ((lk y16.2.1 y16.2.2.2.1).bind fun x20 =>
 bif (roomOk (y16.2.2.1.length + [(x20, r19.2.1)].length) 32) then
 some (y16.1, y16.2.1, (y16.2.2.1 ++ [(x20, r19.2.1)]), y16.2.2.2.1, ())
 else none)
 else
 some (y16.1, y16.2.1, y16.2.2.1, y16.2.2.2.1, ())))).bind fun y21 =>
 some (.inl (y21.1, y21.2.1, y21.2.2.1, (IntKind.i64.wrap (y21.2.2.2.1 + 1)), ())))
 | .inr y16 =>
 some (.inr (y16.1, ()))))
def refNorm (p0 : tP) : Option (Unit × tP × Unit) :=
 ((show Option (tP × List Int × Unit) from
 ((iterN (fun x => refNorm_s3 x.1 x.2.1 x.2.2.1) fuN (p0, ([] : List Int), (0 : Int), ())).bind fun y10 =>
 some (y10.1, y10.2.1, ()))).bind fun y11 =>
 ((refSorted y11.2.1).bind fun r12 =>
 ((iterN (fun x => refNorm_s14 x.1 x.2.1 x.2.2.1 x.2.2.2.1) fuN (y11.1, r12.2.1, ([] : tP), (0 : Int), ())).bind fun y22 =>
 some ((), y22.1, ()))))
def refNorm_c : Ctr := ⟨[.ro s0], [.own (.vec y0)], fun v => refNorm v.1⟩
def refNorm_h : zH := fun i => if i = 10 then zL [(0, s0), (3, .slice yi64), (5, .vec y0), (6, yi64)] [zX 2 [(5, .vec y0)]] else if i = 1120011 then zC [zN [(0, s0), (3, .slice yi64), (5, .vec y0), (6, yi64)]] else if i = 1100012 then zC [zN [(0, s0), (3, .slice yi64), (5, .vec y0), (6, yi64)], zX 2 [(5, .vec y0)]] else if i = 1020007 then zC [zN [(0, s0), (3, .vec yi64)]] else if i = 3 then zL [(0, s0), (3, .vec yi64), (4, yi64)] [zX 0 [(0, s0), (3, .vec yi64)]] else if i = 1050004 then zC [zN [(0, s0), (3, .vec yi64), (4, yi64)]] else if i = 1030005 then zC [zN [(0, s0), (3, .vec yi64), (4, yi64)], zX 0 [(0, s0), (3, .vec yi64)]] else none
def refNorm_g : zG := [(27, refSorted_c), (28, refNumbers_c)]
theorem refNorm_eq : EqB refNorm_c refNorm_g refNorm_h 55 Try.f12 [2] [] := fun v => by kernel_rfl
def refDocs_s3 (a3 : tP) (a4 : List Int) (a5 : Int) : Option ((tP × List Int × Int × Unit) ⊕ (List Int × Unit)) :=
 ((show Option ((tP × List Int × Int × Unit) ⊕ (List Int × Unit)) from
 bif (decide (a5 < (a3.length : Int))) then
 some (.inl (a3, a4, a5, ()))
 else
 some (.inr (a4, ()))).bind fun y5 =>
 (match y5 with
 | .inl y5 =>
 ((show Option (tP × List Int × Int × Unit) from
 ((lk y5.1 y5.2.2.1).bind fun _x7 =>
 ((lk y5.1 y5.2.2.1).bind fun x8 =>
 bif (roomOk (y5.2.1.length + [x8.1].length) 8) then
 some (y5.1, (y5.2.1 ++ [x8.1]), y5.2.2.1, ())
 else none))).bind fun y9 =>
 some (.inl (y9.1, y9.2.1, (IntKind.i64.wrap (y9.2.2.1 + 1)), ())))
 | .inr y5 =>
 some (.inr (y5.1, ()))))
def refDocs (p0 : tP) : Option (Unit × List Int × Unit) :=
 ((refNorm p0).bind fun r1 =>
 ((iterN (fun x => refDocs_s3 x.1 x.2.1 x.2.2.1) fuN (r1.2.1, ([] : List Int), (0 : Int), ())).bind fun y10 =>
 some ((), y10.1, ())))
def refDocs_c : Ctr := ⟨[.ro s0], [.own (.vec yi64)], fun v => refDocs v.1⟩
def refDocs_h : zH := fun i => if i = 4 then zL [(3, .vec y0), (4, .vec yi64), (5, yi64)] [zX 0 [(4, .vec yi64)]] else if i = 1060005 then zC [zN [(3, .vec y0), (4, .vec yi64), (5, yi64)]] else if i = 1040006 then zC [zN [(3, .vec y0), (4, .vec yi64), (5, yi64)], zX 0 [(4, .vec yi64)]] else none
def refDocs_g : zG := [(12, refNorm_c)]
theorem refDocs_eq : EqB refDocs_c refDocs_g refDocs_h 23 Try.f15 [2] [] := fun v => by kernel_rfl
def refIn_s2 (a0 : tP) (a1 : Int) (a5 : Int) : Option ((tP × Int × Int × Unit) ⊕ ((Bool × Unit) ⊕ Unit)) :=
 ((show Option ((tP × Int × Int × Unit) ⊕ Unit) from
 bif (decide (a5 < (a0.length : Int))) then
 some (.inl (a0, a1, a5, ()))
 else
 some (.inr ())).bind fun y4 =>
 (match y4 with
 | .inl y4 =>
 ((show Option ((Bool × Unit) ⊕ (tP × Int × Int × Unit)) from
 ((lk y4.1 y4.2.2.1).bind fun x6 =>
 bif (x6.1 == y4.2.1) then
 some (.inl (true, ()))
 else
 some (.inr (y4.1, y4.2.1, y4.2.2.1, ())))).bind fun y7 =>
 (match y7 with
 | .inl y7 =>
 some (.inr (.inl (y7.1, ())))
 | .inr y7 =>
 some (.inl (y7.1, y7.2.1, (IntKind.i64.wrap (y7.2.2.1 + 1)), ()))))
 | .inr y4 =>
 some (.inr (.inr ()))))
def refIn (p0 : tP) (p1 : Int) : Option (Unit × Bool × Unit) :=
 ((iterN (fun x => refIn_s2 x.1 x.2.1 x.2.2.1) fuN (p0, p1, (0 : Int), ())).bind fun y8 =>
 (match y8 with
 | .inl y8 =>
 some ((), y8.1, ())
 | .inr y8 =>
 some ((), false, ())))
def refIn_c : Ctr := ⟨[.ro s0, .ro yi64], [.val .bool], fun v => refIn v.1 v.2.1⟩
def refIn_h : zH := fun i => if i = 2 then zL [(0, s0), (1, yi64), (5, yi64)] [zR [(4, .bool)], zX 0 []] else if i = 1040003 then zC [zR [(4, .bool)], zN [(0, s0), (1, yi64), (5, yi64)]] else if i = 1020004 then zC [zN [(0, s0), (1, yi64), (5, yi64)], zX 0 []] else none
theorem refIn_eq : EqB refIn_c [] refIn_h 19 Try.f33 [4] [] := fun v => by kernel_rfl
def refBoth_s3 (a0 : tP) (a1 : tP) (a5 : tP) (a6 : Int) : Option ((tP × tP × tP × Int × Unit) ⊕ (tP × tP × Unit)) :=
 ((show Option ((tP × tP × tP × Int × Unit) ⊕ (tP × tP × Unit)) from
 bif (decide (a6 < (a0.length : Int))) then
 some (.inl (a0, a1, a5, a6, ()))
 else
 some (.inr (a1, a5, ()))).bind fun y5 =>
 (match y5 with
 | .inl y5 =>
 ((show Option (tP × tP × tP × Int × Unit) from
 ((lk y5.1 y5.2.2.2.1).bind fun x7 =>
 bif (roomOk (y5.2.2.1.length + [x7].length) 32) then
 some (y5.1, y5.2.1, (y5.2.2.1 ++ [x7]), y5.2.2.2.1, ())
 else none)).bind fun y8 =>
 some (.inl (y8.1, y8.2.1, y8.2.2.1, (IntKind.i64.wrap (y8.2.2.2.1 + 1)), ())))
 | .inr y5 =>
 some (.inr (y5.1, y5.2.1, ()))))
def refBoth_s12 (a1 : tP) (a5 : tP) (a7 : Int) : Option ((tP × tP × Int × Unit) ⊕ (tP × Unit)) :=
 ((show Option ((tP × tP × Int × Unit) ⊕ (tP × Unit)) from
 bif (decide (a7 < (a1.length : Int))) then
 some (.inl (a1, a5, a7, ()))
 else
 some (.inr (a5, ()))).bind fun y14 =>
 (match y14 with
 | .inl y14 =>
 ((show Option (tP × tP × Int × Unit) from
 ((lk y14.1 y14.2.2.1).bind fun x16 =>
 bif (roomOk (y14.2.1.length + [x16].length) 32) then
 some (y14.1, (y14.2.1 ++ [x16]), y14.2.2.1, ())
 else none)).bind fun y17 =>
 some (.inl (y17.1, y17.2.1, (IntKind.i64.wrap (y17.2.2.1 + 1)), ())))
 | .inr y14 =>
 some (.inr (y14.1, ()))))
def refBoth (p0 : tP) (p1 : tP) : Option (Unit × tP × Unit) :=
 ((show Option (tP × tP × Unit) from
 ((iterN (fun x => refBoth_s3 x.1 x.2.1 x.2.2.1 x.2.2.2.1) fuN (p0, p1, ([] : tP), (0 : Int), ())).bind fun y9 =>
 some (y9.1, y9.2.1, ()))).bind fun y10 =>
 ((iterN (fun x => refBoth_s12 x.1 x.2.1 x.2.2.1) fuN (y10.1, y10.2.1, (0 : Int), ())).bind fun y18 =>
 some ((), y18.1, ())))
def refBoth_c : Ctr := ⟨[.ro s0, .ro s0], [.own (.vec y0)], fun v => refBoth v.1 v.2.1⟩
def refBoth_h : zH := fun i => if i = 7 then zL [(1, s0), (5, .vec y0), (7, yi64)] [zX 2 [(5, .vec y0)]] else if i = 1090008 then zC [zN [(1, s0), (5, .vec y0), (7, yi64)]] else if i = 1070009 then zC [zN [(1, s0), (5, .vec y0), (7, yi64)], zX 2 [(5, .vec y0)]] else if i = 1020006 then zC [zN [(1, s0), (5, .vec y0)]] else if i = 3 then zL [(0, s0), (1, s0), (5, .vec y0), (6, yi64)] [zX 0 [(1, s0), (5, .vec y0)]] else if i = 1050004 then zC [zN [(0, s0), (1, s0), (5, .vec y0), (6, yi64)]] else if i = 1030005 then zC [zN [(0, s0), (1, s0), (5, .vec y0), (6, yi64)], zX 0 [(1, s0), (5, .vec y0)]] else none
theorem refBoth_eq : EqB refBoth_c [] refBoth_h 35 Try.f30 [4] [] := fun v => by kernel_rfl
def refOr (p0 : tP) (p1 : tP) : Option (Unit × tP × Unit) :=
 ((refBoth p0 p1).bind fun r1 =>
 ((refNorm r1.2.1).bind fun r2 =>
 some ((), r2.2.1, ())))
def refOr_c : Ctr := ⟨[.ro s0, .ro s0], [.own (.vec y0)], fun v => refOr v.1 v.2.1⟩
def refOr_h : zH := fun i => none
def refOr_g : zG := [(12, refNorm_c), (30, refBoth_c)]
theorem refOr_eq : EqB refOr_c refOr_g refOr_h 9 Try.f17 [4] [] := fun v => by kernel_rfl
def refAnd_s5 (a5 : tP) (a6 : tP) (a7 : tP) (a8 : tP) (a9 : Int) : Option ((tP × tP × tP × tP × Int × Unit) ⊕ (tP × Unit)) :=
 ((show Option ((tP × tP × tP × tP × Int × Unit) ⊕ (tP × Unit)) from
 bif (decide (a9 < (a7.length : Int))) then
 some (.inl (a5, a6, a7, a8, a9, ()))
 else
 some (.inr (a8, ()))).bind fun y7 =>
 (match y7 with
 | .inl y7 =>
 ((show Option (tP × tP × tP × tP × Int × Unit) from
 ((show Option (tP × tP × tP × tP × Int × Bool × Unit) from
 ((lk y7.2.2.1 y7.2.2.2.2.1).bind fun _x10 =>
 ((lk y7.2.2.1 y7.2.2.2.2.1).bind fun x11 =>
 ((refIn y7.1 x11.1).bind fun r12 =>
 bif r12.2.1 then
 ((lk y7.2.2.1 y7.2.2.2.2.1).bind fun _x13 =>
 ((lk y7.2.2.1 y7.2.2.2.2.1).bind fun x14 =>
 ((refIn y7.2.1 x14.1).bind fun r15 =>
 some (y7.1, y7.2.1, y7.2.2.1, y7.2.2.2.1, y7.2.2.2.2.1, r15.2.1, ()))))
 else
 some (y7.1, y7.2.1, y7.2.2.1, y7.2.2.2.1, y7.2.2.2.2.1, false, ()))))).bind fun y16 =>
 bif y16.2.2.2.2.2.1 then
 ((lk y16.2.2.1 y16.2.2.2.2.1).bind fun _x17 =>
 ((lk y16.2.2.1 y16.2.2.2.2.1).bind fun x18 =>
 bif (roomOk (y16.2.2.2.1.length + [x18].length) 32) then
 some (y16.1, y16.2.1, y16.2.2.1, (y16.2.2.2.1 ++ [x18]), y16.2.2.2.2.1, ())
 else none))
 else
 some (y16.1, y16.2.1, y16.2.2.1, y16.2.2.2.1, y16.2.2.2.2.1, ()))).bind fun y19 =>
 some (.inl (y19.1, y19.2.1, y19.2.2.1, y19.2.2.2.1, (IntKind.i64.wrap (y19.2.2.2.2.1 + 1)), ())))
 | .inr y7 =>
 some (.inr (y7.1, ()))))
def refAnd (p0 : tP) (p1 : tP) : Option (Unit × tP × Unit) :=
 ((refNorm p0).bind fun r1 =>
 ((refNorm p1).bind fun r2 =>
 ((refOr p0 p1).bind fun r3 =>
 ((iterN (fun x => refAnd_s5 x.1 x.2.1 x.2.2.1 x.2.2.2.1 x.2.2.2.2.1) fuN (r1.2.1, r2.2.1, r3.2.1, ([] : tP), (0 : Int), ())).bind fun y20 =>
 some ((), y20.1, ())))))
def refAnd_c : Ctr := ⟨[.ro s0, .ro s0], [.own (.vec y0)], fun v => refAnd v.1 v.2.1⟩
def refAnd_h : zH := fun i => if i = 4 then zL [(5, .vec y0), (6, .vec y0), (7, .vec y0), (8, .vec y0), (9, yi64)] [zX 0 [(8, .vec y0)]] else if i = 1060005 then zC [zN [(5, .vec y0), (6, .vec y0), (7, .vec y0), (8, .vec y0), (9, yi64)]] else if i = 1060007 then zC [zN [(5, .vec y0), (6, .vec y0), (7, .vec y0), (8, .vec y0), (9, yi64), (38, .bool)]] else if i = 1040006 then zC [zN [(5, .vec y0), (6, .vec y0), (7, .vec y0), (8, .vec y0), (9, yi64)], zX 0 [(8, .vec y0)]] else none
def refAnd_g : zG := [(12, refNorm_c), (33, refIn_c), (17, refOr_c)]
theorem refAnd_eq : EqB refAnd_c refAnd_g refAnd_h 47 Try.f19 [4] [] := fun v => by kernel_rfl
def refMinus_s4 (a5 : tP) (a6 : tP) (a7 : tP) (a8 : Int) : Option ((tP × tP × tP × Int × Unit) ⊕ (tP × Unit)) :=
 ((show Option ((tP × tP × tP × Int × Unit) ⊕ (tP × Unit)) from
 bif (decide (a8 < (a5.length : Int))) then
 some (.inl (a5, a6, a7, a8, ()))
 else
 some (.inr (a7, ()))).bind fun y6 =>
 (match y6 with
 | .inl y6 =>
 ((show Option (tP × tP × tP × Int × Unit) from
 ((lk y6.1 y6.2.2.2.1).bind fun _x8 =>
 ((lk y6.1 y6.2.2.2.1).bind fun x9 =>
 ((refIn y6.2.1 x9.1).bind fun r10 =>
 bif (!r10.2.1) then
 ((lk y6.1 y6.2.2.2.1).bind fun _x11 =>
 ((lk y6.1 y6.2.2.2.1).bind fun x12 =>
 bif (roomOk (y6.2.2.1.length + [x12].length) 32) then
 some (y6.1, y6.2.1, (y6.2.2.1 ++ [x12]), y6.2.2.2.1, ())
 else none))
 else
 some (y6.1, y6.2.1, y6.2.2.1, y6.2.2.2.1, ()))))).bind fun y13 =>
 some (.inl (y13.1, y13.2.1, y13.2.2.1, (IntKind.i64.wrap (y13.2.2.2.1 + 1)), ())))
 | .inr y6 =>
 some (.inr (y6.1, ()))))
def refMinus (p0 : tP) (p1 : tP) : Option (Unit × tP × Unit) :=
 ((refNorm p0).bind fun r1 =>
 ((refNorm p1).bind fun r2 =>
 ((iterN (fun x => refMinus_s4 x.1 x.2.1 x.2.2.1 x.2.2.2.1) fuN (r1.2.1, r2.2.1, ([] : tP), (0 : Int), ())).bind fun y14 =>
 some ((), y14.1, ()))))
def refMinus_c : Ctr := ⟨[.ro s0, .ro s0], [.own (.vec y0)], fun v => refMinus v.1 v.2.1⟩
def refMinus_h : zH := fun i => if i = 4 then zL [(5, .vec y0), (6, .vec y0), (7, .vec y0), (8, yi64)] [zX 0 [(7, .vec y0)]] else if i = 1060005 then zC [zN [(5, .vec y0), (6, .vec y0), (7, .vec y0), (8, yi64)]] else if i = 1040006 then zC [zN [(5, .vec y0), (6, .vec y0), (7, .vec y0), (8, yi64)], zX 0 [(7, .vec y0)]] else none
def refMinus_g : zG := [(12, refNorm_c), (33, refIn_c)]
theorem refMinus_eq : EqB refMinus_c refMinus_g refMinus_h 35 Try.f21 [4] [] := fun v => by kernel_rfl
def refHas_s12 (a0 : tP) (a2 : Int) (a7 : Int) (a8 : Int) (a9 : Int) : Option ((tP × Int × Int × Int × Int × Unit) ⊕ (tP × Int × Int × Int × Unit)) :=
 ((show Option ((tP × Int × Int × Int × Int × Unit) ⊕ (tP × Int × Int × Int × Unit)) from
 bif (decide (a8 < a9)) then
 some (.inl (a0, a2, a7, a8, a9, ()))
 else
 some (.inr (a0, a2, a7, a8, ()))).bind fun y14 =>
 (match y14 with
 | .inl y14 =>
 bif ((2 : Int) != 0) then
 let v15 := (IntKind.i64.wrap (Int.tdiv (IntKind.i64.wrap (y14.2.2.2.1 + y14.2.2.2.2.1)) (2 : Int)))
 ((lk y14.1 y14.2.2.1).bind fun x16 =>
 ((lk x16.2 v15).bind fun x17 =>
 bif (decide (x17 < y14.2.1)) then
 some (.inl (y14.1, y14.2.1, y14.2.2.1, (IntKind.i64.wrap (v15 + 1)), y14.2.2.2.2.1, ()))
 else
 some (.inl (y14.1, y14.2.1, y14.2.2.1, y14.2.2.2.1, v15, ()))))
 else none
 | .inr y14 =>
 some (.inr (y14.1, y14.2.1, y14.2.2.1, y14.2.2.2.1, ()))))
def refHas_s2 (a0 : tP) (a1 : Int) (a2 : Int) (a7 : Int) : Option ((tP × Int × Int × Int × Unit) ⊕ ((Bool × Unit) ⊕ Unit)) :=
 ((show Option ((tP × Int × Int × Int × Unit) ⊕ Unit) from
 bif (decide (a7 < (a0.length : Int))) then
 some (.inl (a0, a1, a2, a7, ()))
 else
 some (.inr ())).bind fun y4 =>
 (match y4 with
 | .inl y4 =>
 ((show Option ((tP × Int × Int × Int × Unit) ⊕ (Bool × Unit)) from
 ((show Option ((tP × Int × Int × Int × Unit) ⊕ (tP × Int × Int × Unit)) from
 ((lk y4.1 y4.2.2.2.1).bind fun x7 =>
 bif (x7.1 != y4.2.1) then
 some (.inl (y4.1, y4.2.1, y4.2.2.1, y4.2.2.2.1, ()))
 else
 some (.inr (y4.1, y4.2.2.1, y4.2.2.2.1, ())))).bind fun y8 =>
 (match y8 with
 | .inl y8 =>
 some (.inl (y8.1, y8.2.1, y8.2.2.1, y8.2.2.2.1, ()))
 | .inr y8 =>
 ((lk y8.1 y8.2.2.1).bind fun x9 =>
 ((show Option (tP × Int × Int × Int × Unit) from
 ((iterN (fun x => refHas_s12 x.1 x.2.1 x.2.2.1 x.2.2.2.1 x.2.2.2.2.1) fuN (y8.1, y8.2.1, y8.2.2.1, (0 : Int), (x9.2.length : Int), ())).bind fun y18 =>
 some (y18.1, y18.2.1, y18.2.2.1, y18.2.2.2.1, ()))).bind fun y19 =>
 ((lk y19.1 y19.2.2.1).bind fun x20 =>
 bif (decide (y19.2.2.2.1 < (x20.2.length : Int))) then
 ((lk y19.1 y19.2.2.1).bind fun x21 =>
 ((lk x21.2 y19.2.2.2.1).bind fun x22 =>
 some (.inr ((x22 == y19.2.1), ()))))
 else
 some (.inr (false, ())))))))).bind fun y23 =>
 (match y23 with
 | .inl y23 =>
 some (.inl (y23.1, y23.2.1, y23.2.2.1, (IntKind.i64.wrap (y23.2.2.2.1 + 1)), ()))
 | .inr y23 =>
 some (.inr (.inl (y23.1, ())))))
 | .inr y4 =>
 some (.inr (.inr ()))))
def refHas (p0 : tP) (p1 : Int) (p2 : Int) : Option (Unit × Bool × Unit) :=
 ((iterN (fun x => refHas_s2 x.1 x.2.1 x.2.2.1 x.2.2.2.1) fuN (p0, p1, p2, (0 : Int), ())).bind fun y24 =>
 (match y24 with
 | .inl y24 =>
 some ((), y24.1, ())
 | .inr y24 =>
 some ((), false, ())))
def refHas_c : Ctr := ⟨[.ro s0, .ro yi64, .ro yi64], [.val .bool], fun v => refHas v.1 v.2.1 v.2.2.1⟩
def refHas_h : zH := fun i => if i = 2 then zL [(0, s0), (1, yi64), (2, yi64), (7, yi64)] [zR [(6, .bool)], zX 0 []] else if i = 1040003 then zC [zN [(0, s0), (1, yi64), (2, yi64), (7, yi64)], zR [(6, .bool)]] else if i = 1060011 then zC [zN [(0, s0), (2, yi64), (7, yi64), (8, yi64)]] else if i = 6 then zL [(0, s0), (2, yi64), (7, yi64), (8, yi64), (9, yi64)] [zX 2 [(0, s0), (2, yi64), (7, yi64), (8, yi64)]] else if i = 1060007 then zC [zN [(0, s0), (2, yi64), (7, yi64), (8, yi64), (9, yi64)], zX 2 [(0, s0), (2, yi64), (7, yi64), (8, yi64)]] else if i = 1040005 then zC [zX 1 [(0, s0), (1, yi64), (2, yi64), (7, yi64)], zN [(0, s0), (2, yi64), (7, yi64)]] else if i = 1020004 then zC [zN [(0, s0), (1, yi64), (2, yi64), (7, yi64)], zX 0 []] else none
theorem refHas_eq : EqB refHas_c [] refHas_h 70 Try.f39 [6] [] := fun v => by kernel_rfl
def refPhrase_s7 (a0 : List tP) (a3 : tP) (a4 : List tP) (a5 : Int) : Option ((List tP × tP × List tP × Int × Unit) ⊕ (tP × List tP × Unit)) :=
 ((show Option ((List tP × tP × List tP × Int × Unit) ⊕ (tP × List tP × Unit)) from
 bif (decide (a5 < (a0.length : Int))) then
 some (.inl (a0, a3, a4, a5, ()))
 else
 some (.inr (a3, a4, ()))).bind fun y9 =>
 (match y9 with
 | .inl y9 =>
 ((show Option (List tP × tP × List tP × Int × Unit) from
 ((lk y9.1 y9.2.2.2.1).bind fun x11 =>
 ((refNorm x11).bind fun r12 =>
 bif (roomOk (y9.2.2.1.length + [r12.2.1].length) 24) then
 some (y9.1, y9.2.1, (y9.2.2.1 ++ [r12.2.1]), y9.2.2.2.1, ())
 else none))).bind fun y13 =>
 some (.inl (y13.1, y13.2.1, y13.2.2.1, (IntKind.i64.wrap (y13.2.2.2.1 + 1)), ())))
 | .inr y9 =>
 some (.inr (y9.1, y9.2.1, ()))))
def refPhrase_s34 (a3 : tP) (a4 : List tP) (a6 : tP) (a7 : Int) (a8 : (Int × List Int)) (a9 : Int) (a10 : Bool) (a11 : Int) : Option ((tP × List tP × tP × Int × (Int × List Int) × Int × Bool × Int × Unit) ⊕ (tP × List tP × tP × Int × (Int × List Int) × Int × Bool × Unit)) :=
 ((show Option ((tP × List tP × tP × Int × (Int × List Int) × Int × Int × Unit) ⊕ (tP × List tP × tP × Int × (Int × List Int) × Int × Bool × Unit)) from
 bif (decide (a11 < (a4.length : Int))) then
 bif a10 then
 some (.inl (a3, a4, a6, a7, a8, a9, a11, ()))
 else
 some (.inr (a3, a4, a6, a7, a8, a9, a10, ()))
 else
 some (.inr (a3, a4, a6, a7, a8, a9, a10, ()))).bind fun y36 =>
 (match y36 with
 | .inl y36 =>
 ((show Option (tP × List tP × tP × Int × (Int × List Int) × Int × Bool × Int × Unit) from
 ((lk y36.1 y36.2.2.2.1).bind fun _x38 =>
 ((lk y36.1 y36.2.2.2.1).bind fun x39 =>
 ((lk x39.2 y36.2.2.2.2.2.1).bind fun x40 =>
 let v41 := (IntKind.i64.wrap ((9223372036854775807 : Int) - y36.2.2.2.2.2.2.1))
 bif (decide (x40 ≤ v41)) then
 ((lk y36.2.1 y36.2.2.2.2.2.2.1).bind fun _x42 =>
 ((lk y36.2.1 y36.2.2.2.2.2.2.1).bind fun x43 =>
 ((lk y36.1 y36.2.2.2.1).bind fun _x44 =>
 ((lk y36.1 y36.2.2.2.1).bind fun x45 =>
 ((lk x45.2 y36.2.2.2.2.2.1).bind fun x46 =>
 ((refHas x43 y36.2.2.2.2.1.1 (IntKind.i64.wrap (x46 + y36.2.2.2.2.2.2.1))).bind fun r47 =>
 some (y36.1, y36.2.1, y36.2.2.1, y36.2.2.2.1, y36.2.2.2.2.1, y36.2.2.2.2.2.1, r47.2.1, y36.2.2.2.2.2.2.1, ())))))))
 else
 some (y36.1, y36.2.1, y36.2.2.1, y36.2.2.2.1, y36.2.2.2.2.1, y36.2.2.2.2.2.1, false, y36.2.2.2.2.2.2.1, ()))))).bind fun y48 =>
 some (.inl (y48.1, y48.2.1, y48.2.2.1, y48.2.2.2.1, y48.2.2.2.2.1, y48.2.2.2.2.2.1, y48.2.2.2.2.2.2.1, (IntKind.i64.wrap (y48.2.2.2.2.2.2.2.1 + 1)), ())))
 | .inr y36 =>
 some (.inr (y36.1, y36.2.1, y36.2.2.1, y36.2.2.2.1, y36.2.2.2.2.1, y36.2.2.2.2.2.1, y36.2.2.2.2.2.2.1, ()))))
def refPhrase_s26 (a3 : tP) (a4 : List tP) (a6 : tP) (a7 : Int) (a8 : (Int × List Int)) (a9 : Int) : Option ((tP × List tP × tP × Int × (Int × List Int) × Int × Unit) ⊕ (tP × List tP × tP × Int × (Int × List Int) × Unit)) :=
 ((show Option ((tP × List tP × tP × Int × (Int × List Int) × Int × Unit) ⊕ (tP × List tP × tP × Int × (Int × List Int) × Unit)) from
 ((lk a3 a7).bind fun _x28 =>
 ((lk a3 a7).bind fun x29 =>
 bif (decide (a9 < (x29.2.length : Int))) then
 some (.inl (a3, a4, a6, a7, a8, a9, ()))
 else
 some (.inr (a3, a4, a6, a7, a8, ()))))).bind fun y30 =>
 (match y30 with
 | .inl y30 =>
 ((show Option (tP × List tP × tP × Int × (Int × List Int) × Int × Unit) from
 ((show Option (tP × List tP × tP × Int × (Int × List Int) × Int × Bool × Unit) from
 ((iterN (fun x => refPhrase_s34 x.1 x.2.1 x.2.2.1 x.2.2.2.1 x.2.2.2.2.1 x.2.2.2.2.2.1 x.2.2.2.2.2.2.1 x.2.2.2.2.2.2.2.1) fuN (y30.1, y30.2.1, y30.2.2.1, y30.2.2.2.1, y30.2.2.2.2.1, y30.2.2.2.2.2.1, true, (0 : Int), ())).bind fun y49 =>
 some (y49.1, y49.2.1, y49.2.2.1, y49.2.2.2.1, y49.2.2.2.2.1, y49.2.2.2.2.2.1, y49.2.2.2.2.2.2.1, ()))).bind fun y50 =>
 bif y50.2.2.2.2.2.2.1 then
 ((lk y50.1 y50.2.2.2.1).bind fun _x51 =>
 ((lk y50.1 y50.2.2.2.1).bind fun x52 =>
 ((lk x52.2 y50.2.2.2.2.2.1).bind fun x53 =>
 bif (roomOk (y50.2.2.2.2.1.2.length + [x53].length) 8) then
 some (y50.1, y50.2.1, y50.2.2.1, y50.2.2.2.1, (y50.2.2.2.2.1.1, (y50.2.2.2.2.1.2 ++ [x53])), y50.2.2.2.2.2.1, ())
 else none)))
 else
 some (y50.1, y50.2.1, y50.2.2.1, y50.2.2.2.1, y50.2.2.2.2.1, y50.2.2.2.2.2.1, ()))).bind fun y54 =>
 some (.inl (y54.1, y54.2.1, y54.2.2.1, y54.2.2.2.1, y54.2.2.2.2.1, (IntKind.i64.wrap (y54.2.2.2.2.2.1 + 1)), ())))
 | .inr y30 =>
 some (.inr (y30.1, y30.2.1, y30.2.2.1, y30.2.2.2.1, y30.2.2.2.2.1, ()))))
def refPhrase_s17 (a3 : tP) (a4 : List tP) (a6 : tP) (a7 : Int) : Option ((tP × List tP × tP × Int × Unit) ⊕ (tP × Unit)) :=
 ((show Option ((tP × List tP × tP × Int × Unit) ⊕ (tP × Unit)) from
 bif (decide (a7 < (a3.length : Int))) then
 some (.inl (a3, a4, a6, a7, ()))
 else
 some (.inr (a6, ()))).bind fun y19 =>
 (match y19 with
 | .inl y19 =>
 ((show Option (tP × List tP × tP × Int × Unit) from
 ((lk y19.1 y19.2.2.2.1).bind fun _x21 =>
 ((lk y19.1 y19.2.2.2.1).bind fun x22 =>
 ((show Option (tP × List tP × tP × Int × (Int × List Int) × Unit) from
 ((iterN (fun x => refPhrase_s26 x.1 x.2.1 x.2.2.1 x.2.2.2.1 x.2.2.2.2.1 x.2.2.2.2.2.1) fuN (y19.1, y19.2.1, y19.2.2.1, y19.2.2.2.1, (x22.1, ([] : List Int)), (0 : Int), ())).bind fun y55 =>
 some (y55.1, y55.2.1, y55.2.2.1, y55.2.2.2.1, y55.2.2.2.2.1, ()))).bind fun y56 =>
 bif (decide ((y56.2.2.2.2.1.2.length : Int) > 0)) then
 bif (roomOk (y56.2.2.1.length + [y56.2.2.2.2.1].length) 32) then
 some (y56.1, y56.2.1, (y56.2.2.1 ++ [y56.2.2.2.2.1]), y56.2.2.2.1, ())
 else none
 else
 some (y56.1, y56.2.1, y56.2.2.1, y56.2.2.2.1, ()))))).bind fun y57 =>
 some (.inl (y57.1, y57.2.1, y57.2.2.1, (IntKind.i64.wrap (y57.2.2.2.1 + 1)), ())))
 | .inr y19 =>
 some (.inr (y19.1, ()))))
def refPhrase (p0 : List tP) : Option (Unit × tP × Unit) :=
 ((show Option ((Unit × Unit) ⊕ (List tP × Unit)) from
 bif ((p0.length : Int) == 0) then
 some (.inl ((), ()))
 else
 some (.inr (p0, ()))).bind fun y2 =>
 (match y2 with
 | .inl y2 =>
 some ((), ([] : tP), ())
 | .inr y2 =>
 ((lk y2.1 (0 : Int)).bind fun x3 =>
 ((refNorm x3).bind fun r4 =>
 ((show Option (tP × List tP × Unit) from
 ((iterN (fun x => refPhrase_s7 x.1 x.2.1 x.2.2.1 x.2.2.2.1) fuN (y2.1, r4.2.1, ([] : List tP), (0 : Int), ())).bind fun y14 =>
 some (y14.1, y14.2.1, ()))).bind fun y15 =>
 ((iterN (fun x => refPhrase_s17 x.1 x.2.1 x.2.2.1 x.2.2.2.1) fuN (y15.1, y15.2.1, ([] : tP), (0 : Int), ())).bind fun y58 =>
 some ((), y58.1, ())))))))
def refPhrase_c : Ctr := ⟨[.ro (.slice s0)], [.own (.vec y0)], fun v => refPhrase v.1⟩
def refPhrase_h : zH := fun i => if i = 11 then zL [(3, .vec y0), (4, .vec s0), (6, .vec y0), (7, yi64)] [zX 2 [(6, .vec y0)]] else if i = 1130012 then zC [zN [(3, .vec y0), (4, .vec s0), (6, .vec y0), (7, yi64)]] else if i = 1140024 then zC [zN [(3, .vec y0), (4, .vec s0), (6, .vec y0), (7, yi64), (8, y3)]] else if i = 15 then zL [(3, .vec y0), (4, .vec s0), (6, .vec y0), (7, yi64), (8, y3), (9, yi64)] [zX 4 [(3, .vec y0), (4, .vec s0), (6, .vec y0), (7, yi64), (8, y3)]] else if i = 1170016 then zC [zN [(3, .vec y0), (4, .vec s0), (6, .vec y0), (7, yi64), (8, y3), (9, yi64)]] else if i = 1180022 then zC [zN [(3, .vec y0), (4, .vec s0), (6, .vec y0), (7, yi64), (8, y3), (9, yi64), (10, .bool)]] else if i = 19 then zL [(3, .vec y0), (4, .vec s0), (6, .vec y0), (7, yi64), (8, y3), (9, yi64), (10, .bool), (11, yi64)] [zX 6 [(3, .vec y0), (4, .vec s0), (6, .vec y0), (7, yi64), (8, y3), (9, yi64), (10, .bool)]] else if i = 1210020 then zC [zN [(3, .vec y0), (4, .vec s0), (6, .vec y0), (7, yi64), (8, y3), (9, yi64), (10, .bool), (11, yi64)]] else if i = 1190021 then zC [zN [(3, .vec y0), (4, .vec s0), (6, .vec y0), (7, yi64), (8, y3), (9, yi64), (11, yi64)], zX 6 [(3, .vec y0), (4, .vec s0), (6, .vec y0), (7, yi64), (8, y3), (9, yi64), (10, .bool)]] else if i = 1150017 then zC [zN [(3, .vec y0), (4, .vec s0), (6, .vec y0), (7, yi64), (8, y3), (9, yi64)], zX 4 [(3, .vec y0), (4, .vec s0), (6, .vec y0), (7, yi64), (8, y3)]] else if i = 1110013 then zC [zN [(3, .vec y0), (4, .vec s0), (6, .vec y0), (7, yi64)], zX 2 [(6, .vec y0)]] else if i = 1050009 then zC [zN [(3, .vec y0), (4, .vec s0)]] else if i = 6 then zL [(0, .slice s0), (3, .vec y0), (4, .vec s0), (5, yi64)] [zX 0 [(3, .vec y0), (4, .vec s0)]] else if i = 1080007 then zC [zN [(0, .slice s0), (3, .vec y0), (4, .vec s0), (5, yi64)]] else if i = 1060008 then zC [zN [(0, .slice s0), (3, .vec y0), (4, .vec s0), (5, yi64)], zX 0 [(3, .vec y0), (4, .vec s0)]] else if i = 1010003 then zC [zR [(2, .nils)], zN [(0, .slice s0)]] else none
def refPhrase_g : zG := [(12, refNorm_c), (39, refHas_c)]
theorem refPhrase_eq : EqB refPhrase_c refPhrase_g refPhrase_h 117 Try.f23 [2] [] := fun v => by kernel_rfl
def same_s15 (a0 : tP) (a1 : tP) (a5 : Int) (a6 : Int) : Option ((tP × tP × Int × Int × Unit) ⊕ ((Bool × Unit) ⊕ (tP × tP × Int × Unit))) :=
 ((show Option ((tP × tP × Int × Int × Unit) ⊕ (tP × tP × Int × Unit)) from
 ((lk a0 a5).bind fun x17 =>
 bif (decide (a6 < (x17.2.length : Int))) then
 some (.inl (a0, a1, a5, a6, ()))
 else
 some (.inr (a0, a1, a5, ())))).bind fun y18 =>
 (match y18 with
 | .inl y18 =>
 ((show Option ((Bool × Unit) ⊕ (tP × tP × Int × Int × Unit)) from
 ((lk y18.1 y18.2.2.1).bind fun x20 =>
 ((lk x20.2 y18.2.2.2.1).bind fun x21 =>
 ((lk y18.2.1 y18.2.2.1).bind fun x22 =>
 ((lk x22.2 y18.2.2.2.1).bind fun x23 =>
 bif (x21 != x23) then
 some (.inl (false, ()))
 else
 some (.inr (y18.1, y18.2.1, y18.2.2.1, y18.2.2.2.1, ()))))))).bind fun y24 =>
 (match y24 with
 | .inl y24 =>
 some (.inr (.inl (y24.1, ())))
 | .inr y24 =>
 some (.inl (y24.1, y24.2.1, y24.2.2.1, (IntKind.i64.wrap (y24.2.2.2.1 + 1)), ()))))
 | .inr y18 =>
 some (.inr (.inr (y18.1, y18.2.1, y18.2.2.1, ())))))
def same_s4 (a0 : tP) (a1 : tP) (a5 : Int) : Option ((tP × tP × Int × Unit) ⊕ ((Bool × Unit) ⊕ Unit)) :=
 ((show Option ((tP × tP × Int × Unit) ⊕ Unit) from
 bif (decide (a5 < (a0.length : Int))) then
 some (.inl (a0, a1, a5, ()))
 else
 some (.inr ())).bind fun y6 =>
 (match y6 with
 | .inl y6 =>
 ((show Option ((Bool × Unit) ⊕ (tP × tP × Int × Unit)) from
 ((show Option ((Bool × Unit) ⊕ (tP × tP × Int × Unit)) from
 ((lk y6.1 y6.2.2.1).bind fun x9 =>
 ((lk y6.2.1 y6.2.2.1).bind fun x10 =>
 bif (x9.1 != x10.1) then
 some (.inl (false, ()))
 else
 ((lk y6.1 y6.2.2.1).bind fun x11 =>
 ((lk y6.2.1 y6.2.2.1).bind fun x12 =>
 bif ((x11.2.length : Int) != (x12.2.length : Int)) then
 some (.inl (false, ()))
 else
 some (.inr (y6.1, y6.2.1, y6.2.2.1, ()))))))).bind fun y13 =>
 (match y13 with
 | .inl y13 =>
 some (.inl (y13.1, ()))
 | .inr y13 =>
 ((iterN (fun x => same_s15 x.1 x.2.1 x.2.2.1 x.2.2.2.1) fuN (y13.1, y13.2.1, y13.2.2.1, (0 : Int), ())).bind fun y25 =>
 (match y25 with
 | .inl y25 =>
 some (.inl (y25.1, ()))
 | .inr y25 =>
 some (.inr (y25.1, y25.2.1, y25.2.2.1, ()))))))).bind fun y26 =>
 (match y26 with
 | .inl y26 =>
 some (.inr (.inl (y26.1, ())))
 | .inr y26 =>
 some (.inl (y26.1, y26.2.1, (IntKind.i64.wrap (y26.2.2.1 + 1)), ()))))
 | .inr y6 =>
 some (.inr (.inr ()))))
def same (p0 : tP) (p1 : tP) : Option (Unit × Bool × Unit) :=
 ((show Option ((Bool × Unit) ⊕ (tP × tP × Unit)) from
 bif ((p0.length : Int) != (p1.length : Int)) then
 some (.inl (false, ()))
 else
 some (.inr (p0, p1, ()))).bind fun y2 =>
 (match y2 with
 | .inl y2 =>
 some ((), y2.1, ())
 | .inr y2 =>
 ((iterN (fun x => same_s4 x.1 x.2.1 x.2.2.1) fuN (y2.1, y2.2.1, (0 : Int), ())).bind fun y27 =>
 (match y27 with
 | .inl y27 =>
 some ((), y27.1, ())
 | .inr y27 =>
 some ((), true, ())))))
def same_c : Ctr := ⟨[.ro s0, .ro s0], [.val .bool], fun v => same v.1 v.2.1⟩
def same_h : zH := fun i => if i = 4 then zL [(0, s0), (1, s0), (5, yi64)] [zR [(4, .bool)], zX 0 []] else if i = 1060005 then zC [zR [(4, .bool)], zN [(0, s0), (1, s0), (5, yi64)]] else if i = 9 then zL [(0, s0), (1, s0), (5, yi64), (6, yi64)] [zR [(4, .bool)], zX 2 [(0, s0), (1, s0), (5, yi64)]] else if i = 1110010 then zC [zR [(4, .bool)], zN [(0, s0), (1, s0), (5, yi64), (6, yi64)]] else if i = 1090011 then zC [zN [(0, s0), (1, s0), (5, yi64), (6, yi64)], zX 2 [(0, s0), (1, s0), (5, yi64)]] else if i = 1060008 then zC [zR [(4, .bool)], zN [(0, s0), (1, s0), (5, yi64)]] else if i = 1040006 then zC [zN [(0, s0), (1, s0), (5, yi64)], zX 0 []] else if i = 1010003 then zC [zR [(4, .bool)], zN [(0, s0), (1, s0)]] else none
theorem same_eq : EqB same_c [] same_h 71 Try.f10 [4] [] := fun v => by kernel_rfl
def sameN_s4 (a0 : List Int) (a1 : List Int) (a5 : Int) : Option ((List Int × List Int × Int × Unit) ⊕ ((Bool × Unit) ⊕ Unit)) :=
 ((show Option ((List Int × List Int × Int × Unit) ⊕ Unit) from
 bif (decide (a5 < (a0.length : Int))) then
 some (.inl (a0, a1, a5, ()))
 else
 some (.inr ())).bind fun y6 =>
 (match y6 with
 | .inl y6 =>
 ((show Option ((Bool × Unit) ⊕ (List Int × List Int × Int × Unit)) from
 ((lk y6.1 y6.2.2.1).bind fun x8 =>
 ((lk y6.2.1 y6.2.2.1).bind fun x9 =>
 bif (x8 != x9) then
 some (.inl (false, ()))
 else
 some (.inr (y6.1, y6.2.1, y6.2.2.1, ()))))).bind fun y10 =>
 (match y10 with
 | .inl y10 =>
 some (.inr (.inl (y10.1, ())))
 | .inr y10 =>
 some (.inl (y10.1, y10.2.1, (IntKind.i64.wrap (y10.2.2.1 + 1)), ()))))
 | .inr y6 =>
 some (.inr (.inr ()))))
def sameN (p0 : List Int) (p1 : List Int) : Option (Unit × Bool × Unit) :=
 ((show Option ((Bool × Unit) ⊕ (List Int × List Int × Unit)) from
 bif ((p0.length : Int) != (p1.length : Int)) then
 some (.inl (false, ()))
 else
 some (.inr (p0, p1, ()))).bind fun y2 =>
 (match y2 with
 | .inl y2 =>
 some ((), y2.1, ())
 | .inr y2 =>
 ((iterN (fun x => sameN_s4 x.1 x.2.1 x.2.2.1) fuN (y2.1, y2.2.1, (0 : Int), ())).bind fun y11 =>
 (match y11 with
 | .inl y11 =>
 some ((), y11.1, ())
 | .inr y11 =>
 some ((), true, ())))))
def sameN_c : Ctr := ⟨[.ro (.slice yi64), .ro (.slice yi64)], [.val .bool], fun v => sameN v.1 v.2.1⟩
def sameN_h : zH := fun i => if i = 4 then zL [(0, .slice yi64), (1, .slice yi64), (5, yi64)] [zR [(4, .bool)], zX 0 []] else if i = 1060005 then zC [zR [(4, .bool)], zN [(0, .slice yi64), (1, .slice yi64), (5, yi64)]] else if i = 1040006 then zC [zN [(0, .slice yi64), (1, .slice yi64), (5, yi64)], zX 0 []] else if i = 1010003 then zC [zR [(4, .bool)], zN [(0, .slice yi64), (1, .slice yi64)]] else none
theorem sameN_eq : EqB sameN_c [] sameN_h 26 Try.f13 [4] [] := fun v => by kernel_rfl
def grow (p1 : Int) : Option (Unit × tP × Unit) :=
 ((show Option (Unit × Int × Unit) from
 bif (decide (p1 < 0)) then
 none
 else
 some ((), p1, ())).bind fun y2 =>
 let v3 := (IntKind.i64.wrap (y2.2.1 - (IntKind.i64.wrap ((0 : Int) - 0))))
 bif (decide (v3 > 0)) then
 bif (inB (0 : Int) (0 : Int) 0) then
 bif (decide (0 ≤ v3) && roomOk (Int.toNat v3) 32) then
 bif (inB (0 : Int) (0 : Int) (List.replicate (Int.toNat v3) ((0 : Int), ([] : List Int))).length) then
 some ((), ((((List.replicate (Int.toNat v3) ((0 : Int), ([] : List Int)))).drop (0 : Int).toNat).take ((0 : Int) - 0).toNat), ())
 else none
 else none
 else none
 else
 some ((), ([] : tP), ()))
def grow_c : Ctr := ⟨[.ro .nils, .ro yi64], [.own (.vec y0)], fun v => grow v.2.1⟩
def grow_h : zH := fun i => if i = 1010003 then zC [zN [(0, .nils), (1, yi64)]] else none
theorem grow_eq : EqB grow_c [] grow_h 27 Try.f43 [4] [] := fun v => by kernel_rfl
def concat_s3 (a0 : List tP) (a3 : Int) (a9 : List tP) (a10 : Int) (a11 : Int) : Option ((List tP × Int × List tP × Int × Int × Unit) ⊕ (List tP × Int × Unit)) :=
 bif (decide (a11 < a10)) then
 ((lk a9 a11).bind fun x4 =>
 let v5 := (decide ((IntKind.i64.wrap (a3 + (x4.length : Int))) < 0))
 bif v5 then
 none
 else
 some (.inl (a0, (IntKind.i64.wrap (a3 + (x4.length : Int))), a9, a10, (IntKind.i64.wrap (a11 + 1)), ())))
 else
 some (.inr (a0, a3, ()))
def concat_s10 (a6 : tP) (a25 : List tP) (a26 : Int) (a27 : Int) : Option ((tP × List tP × Int × Int × Unit) ⊕ (tP × Unit)) :=
 bif (decide (a27 < a26)) then
 ((lk a25 a27).bind fun x11 =>
 bif (roomOk (a6.length + x11.length) 32) then
 some (.inl ((a6 ++ x11), a25, a26, (IntKind.i64.wrap (a27 + 1)), ()))
 else none)
 else
 some (.inr (a6, ()))
def concat (p0 : List tP) : Option (Unit × tP × Unit) :=
 ((show Option (List tP × Int × Unit) from
 ((iterN (fun x => concat_s3 x.1 x.2.1 x.2.2.1 x.2.2.2.1 x.2.2.2.2.1) fuN (p0, (0 : Int), p0, (p0.length : Int), (0 : Int), ())).bind fun y6 =>
 some (y6.1, y6.2.1, ()))).bind fun y7 =>
 ((grow y7.2.1).bind fun r8 =>
 ((iterN (fun x => concat_s10 x.1 x.2.1 x.2.2.1 x.2.2.2.1) fuN (r8.2.1, y7.1, (y7.1.length : Int), (0 : Int), ())).bind fun y12 =>
 some ((), y12.1, ()))))
def concat_c : Ctr := ⟨[.ro (.slice s0)], [.own (.vec y0)], fun v => concat v.1⟩
def concat_h : zH := fun i => if i = 11 then zL [(6, .vec y0), (25, .slice s0), (26, yi64), (27, yi64)] [zX 2 [(6, .vec y0)]] else if i = 1020009 then zC [zN [(0, .slice s0), (3, yi64)]] else if i = 3 then zL [(0, .slice s0), (3, yi64), (9, .slice s0), (10, yi64), (11, yi64)] [zX 0 [(0, .slice s0), (3, yi64)]] else none
def concat_g : zG := [(43, grow_c)]
theorem concat_eq : EqB concat_c concat_g concat_h 36 Try.f29 [2] [] := fun v => by kernel_rfl
def byDoc_s4 (a3 : tR) (a5 : (Int × List Int)) (a9 : tP) (a10 : Int) (a11 : Int) (a16 : List Int) (a17 : Int) (a18 : Int) (q0 : tO) : Option (((tR × (Int × List Int) × tP × Int × Int × List Int × Int × Int × Unit) × tO × Unit) ⊕ ((tR × tP × Int × Int × Unit) × tO × Unit)) :=
 bif (decide (a18 < a17)) then
 ((lk a16 a18).bind fun x5 =>
 ((show Option ((tR × (Int × List Int) × Int × tP × Int × Int × List Int × Int × Int × Bool × Unit) × tO × Unit) from
 bif (decide (a5.1 ≥ 0)) then
 some ((a3, a5, x5, a9, a10, a11, a16, a17, a18, (decide (x5 ≥ 0)), ()), q0, ())
 else
 some ((a3, a5, x5, a9, a10, a11, a16, a17, a18, false, ()), q0, ())).bind fun y7 =>
 bif y7.1.2.2.2.2.2.2.2.2.2.1 then
 let v8 := ((mget y7.1.1 y7.1.2.1.1).getD (none : Option (Nat × Nat × Nat)))
 ((hget y7.2.1 v8).bind fun l9 =>
 bif (roomOk (l9.length + [y7.1.2.2.1].length) 8) then
 let l10 := (mset y7.1.1 y7.1.2.1.1 (some ((hset y7.2.1 v8 none).length, 0, (l9 ++ [y7.1.2.2.1]).length)))
 some (.inl ((l10, y7.1.2.1, y7.1.2.2.2.1, y7.1.2.2.2.2.1, y7.1.2.2.2.2.2.1, y7.1.2.2.2.2.2.2.1, y7.1.2.2.2.2.2.2.2.1, (IntKind.i64.wrap (y7.1.2.2.2.2.2.2.2.2.1 + 1)), ()), ((hset y7.2.1 v8 none) ++ [some (l9 ++ [y7.1.2.2.1])]), ()))
 else none)
 else
 some (.inl ((y7.1.1, y7.1.2.1, y7.1.2.2.2.1, y7.1.2.2.2.2.1, y7.1.2.2.2.2.2.1, y7.1.2.2.2.2.2.2.1, y7.1.2.2.2.2.2.2.2.1, (IntKind.i64.wrap (y7.1.2.2.2.2.2.2.2.2.1 + 1)), ()), y7.2.1, ()))))
 else
 some (.inr ((a3, a9, a10, a11, ()), q0, ()))
def byDoc_s1 (a3 : tR) (a9 : tP) (a10 : Int) (a11 : Int) (q0 : tO) : Option (((tR × tP × Int × Int × Unit) × tO × Unit) ⊕ ((tR × Unit) × tO × Unit)) :=
 bif (decide (a11 < a10)) then
 ((lk a9 a11).bind fun x2 =>
 ((iterN (fun x => byDoc_s4 x.1.1 x.1.2.1 x.1.2.2.1 x.1.2.2.2.1 x.1.2.2.2.2.1 x.1.2.2.2.2.2.1 x.1.2.2.2.2.2.2.1 x.1.2.2.2.2.2.2.2.1 x.2.1) fuN ((a3, x2, a9, a10, a11, x2.2, (x2.2.length : Int), (0 : Int), ()), q0, ())).bind fun y11 =>
 some (.inl ((y11.1.1, y11.1.2.1, y11.1.2.2.1, (IntKind.i64.wrap (y11.1.2.2.2.1 + 1)), ()), y11.2.1, ()))))
 else
 some (.inr ((a3, ()), q0, ()))
def byDoc (p0 : tP) : Option (Unit × ((tO × Unit) × tR) × Unit) :=
 ((iterN (fun x => byDoc_s1 x.1.1 x.1.2.1 x.1.2.2.1 x.1.2.2.2.1 x.2.1) fuN ((([] : tR), p0, (p0.length : Int), (0 : Int), ()), ([] : tO), ())).bind fun y12 =>
 some ((), (cnP [(0, .int IntKind.i64)] (.mpc IntKind.i64 (.psl 0)) (y12.2.1, ()) y12.1.1), ()))
def byDoc_c : Ctr := ⟨[.ro s0], [.ownp [(0, yi64)] (.mpc IntKind.i64 (.psl 0))], fun v => byDoc v.1⟩
def byDoc_h : zH := fun i => if i = 3 then some ⟨⟨[(3, (.mpc IntKind.i64 (.psl 0))), (9, s0), (10, yi64), (11, yi64)], [], [(0, yi64)]⟩, [((.exit 0), ⟨[(3, (.mpc IntKind.i64 (.psl 0)))], [], [(0, yi64)]⟩)]⟩ else if i = 6 then some ⟨⟨[(3, (.mpc IntKind.i64 (.psl 0))), (5, .bx y0), (9, s0), (10, yi64), (11, yi64), (16, .slice yi64), (17, yi64), (18, yi64)], [], [(0, yi64)]⟩, [((.exit 2), ⟨[(3, (.mpc IntKind.i64 (.psl 0))), (9, s0), (10, yi64), (11, yi64)], [], [(0, yi64)]⟩)]⟩ else if i = 1080009 then some ⟨⟨[], [], []⟩, [(.normal, ⟨[(3, (.mpc IntKind.i64 (.psl 0))), (5, .bx y0), (7, yi64), (9, s0), (10, yi64), (11, yi64), (16, .slice yi64), (17, yi64), (18, yi64), (28, .bool)], [], [(0, yi64)]⟩)]⟩ else none
def byDoc_g : zG := []
theorem byDoc_eq (v : PDen byDoc_c.ps) : semF tbl (gam byDoc_g) byDoc_h fuN 42 (bodyOf Try.f26) [(0, .int IntKind.i64)] byDoc_c.ps byDoc_c.rs [2] [] v = byDoc_c.g v := by kernel_rfl
def list_s1 (a3 : tR) (a7 : (tR × Option (Int × (Option (Nat × Nat × Nat))))) (q0 : tO) : Option (((tR × (tR × Option (Int × (Option (Nat × Nat × Nat)))) × Unit) × tO × Unit) ⊕ ((tR × Unit) × tO × Unit)) :=
 bif (a7.2.isSome) then
 ((a7.2).bind fun x2 =>
 bif (((hok q0 x2.2) && (hall q0 x2.2)) && true) then
 ((sortI (hgetD q0 x2.2)).bind fun r3 =>
 bif ((hok (hset q0 x2.2 (some r3.1)) x2.2) && true) then
 ((compactI (hgetD (hset q0 x2.2 (some r3.1)) x2.2)).bind fun r4 =>
 let l5 := (some ((hset (hset q0 x2.2 (some r3.1)) x2.2 none).length, 0, r4.2.1.length))
 let l6 := ((hset (hset q0 x2.2 (some r3.1)) x2.2 none) ++ [some r4.2.1])
 bif (roomOk (a3.length + [(x2.1, l5)].length) 32) then
 some (.inl (((a3 ++ [(x2.1, l5)]), a7, ()), l6, ()))
 else none)
 else none)
 else none)
 else
 some (.inr ((a3, ()), q0, ()))
def list (p0 : ((tO × Unit) × tR)) : Option (Unit × ((tO × Unit) × tR) × Unit) :=
 (iterM (sl := [(3, .vec (.st (.pair (.int IntKind.i64) (.psl 0)))), (7, (.mit IntKind.i64 (.psl 0)))]) 7 [(0, .int IntKind.i64)] (fun x => list_s1 x.1.1 x.1.2.1 x.2.1) fuN ((([] : tR), (p0.2, (none : Option (Int × (Option (Nat × Nat × Nat))))), ()), p0.1.1, ()) fun y7 =>
 ((sortP y7.1.1).bind fun r8 =>
 some ((), (cnP [(0, .int IntKind.i64)] (.vec (.st (.pair (.int IntKind.i64) (.psl 0)))) (y7.2.1, ()) r8.1), ())))
def list_c : Ctr := ⟨[.ownp [(0, yi64)] (.mpc IntKind.i64 (.psl 0))], [.ownp [(0, yi64)] y1], fun v => list v.1⟩
def list_h : zH := fun i => if i = 3 then some ⟨⟨[(3, y1), (7, (.mit IntKind.i64 (.psl 0)))], [], [(0, yi64)]⟩, [((.exit 0), ⟨[(3, y1)], [], [(0, yi64)]⟩)]⟩ else none
def list_g : zG := [(41, sortP_c), (35, sortI_c), (40, compactI_c)]
theorem list_eq : EqB list_c list_g list_h 25 Try.f25 [2] [] := fun v => by kernel_rfl
def norm (p0 : tP) : Option (Unit × ((tO × Unit) × tR) × Unit) :=
 ((byDoc p0).bind fun r0 =>
 let l1 := (List.map (fun p => (p.1, (shH ([] : tO).length p.2))) r0.2.1.2)
 let l2 := (([] : tO) ++ shL' ([] : tO) (fun (u : Int) => u) r0.2.1.1.1)
 ((list ((l2, ()), l1)).bind fun r3 =>
 let l4 := (List.map (fun u => (u.1, (shH (List.map (fun _ => (none : Option (List Int))) l2).length u.2))) r3.2.1.2)
 let l5 := ((List.map (fun _ => (none : Option (List Int))) l2) ++ shL' (List.map (fun _ => (none : Option (List Int))) l2) (fun (u : Int) => u) r3.2.1.1.1)
 some ((), (cnP [(0, .int IntKind.i64)] (.vec (.st (.pair (.int IntKind.i64) (.psl 0)))) (l5, ()) l4), ())))
def norm_c : Ctr := ⟨[.ro s0], [.ownp [(0, yi64)] y1], fun v => norm v.1⟩
def norm_h : zH := fun i => none
def norm_g : zG := [(26, byDoc_c), (25, list_c)]
theorem norm_eq (v : PDen norm_c.ps) : semF tbl (gam norm_g) norm_h fuN 6 (bodyOf Try.f11) [(0, .int IntKind.i64)] norm_c.ps norm_c.rs [2] [] v = norm_c.g v := by kernel_rfl
def docs_s5 (a3 : List Int) (a7 : tR) (a8 : Int) (a9 : Int) (q0 : tO) : Option (((List Int × tR × Int × Int × Unit) × tO × Unit) ⊕ ((List Int × Unit) × tO × Unit)) :=
 bif (decide (a9 < a8)) then
 ((lk a7 a9).bind fun _x6 =>
 ((lk a7 a9).bind fun x7 =>
 bif (roomOk (a3.length + [x7.1].length) 8) then
 some (.inl (((a3 ++ [x7.1]), a7, a8, (IntKind.i64.wrap (a9 + 1)), ()), q0, ()))
 else none))
 else
 some (.inr ((a3, ()), q0, ()))
def docs (p0 : tP) : Option (Unit × List Int × Unit) :=
 ((norm p0).bind fun r1 =>
 let l2 := (List.map (fun u => (u.1, (shH ([] : tO).length u.2))) r1.2.1.2)
 let l3 := (([] : tO) ++ shL' ([] : tO) (fun (u : Int) => u) r1.2.1.1.1)
 ((iterN (fun x => docs_s5 x.1.1 x.1.2.1 x.1.2.2.1 x.1.2.2.2.1 x.2.1) fuN ((([] : List Int), l2, (l2.length : Int), (0 : Int), ()), l3, ())).bind fun y8 =>
 some ((), y8.1.1, ())))
def docs_c : Ctr := ⟨[.ro s0], [.own (.vec yi64)], fun v => docs v.1⟩
def docs_h : zH := fun i => if i = 3 then some ⟨⟨[(3, .vec yi64), (7, y1), (8, yi64), (9, yi64)], [], [(0, yi64)]⟩, [((.exit 0), ⟨[(3, .vec yi64)], [], [(0, yi64)]⟩)]⟩ else none
def docs_g : zG := [(11, norm_c)]
theorem docs_eq (v : PDen docs_c.ps) : semF tbl (gam docs_g) docs_h fuN 20 (bodyOf Try.f14) [(0, .int IntKind.i64)] docs_c.ps docs_c.rs [2] [] v = docs_c.g v := by kernel_rfl
def or (p0 : tP) (p1 : tP) : Option (Unit × ((tO × Unit) × tR) × Unit) :=
 ((concat [p0, p1]).bind fun r0 =>
 ((norm r0.2.1).bind fun r1 =>
 let l2 := (List.map (fun u => (u.1, (shH ([] : tO).length u.2))) r1.2.1.2)
 let l3 := (([] : tO) ++ shL' ([] : tO) (fun (u : Int) => u) r1.2.1.1.1)
 some ((), (cnP [(0, .int IntKind.i64)] (.vec (.st (.pair (.int IntKind.i64) (.psl 0)))) (l3, ()) l2), ())))
def or_c : Ctr := ⟨[.ro s0, .ro s0], [.ownp [(0, yi64)] y1], fun v => or v.1 v.2.1⟩
def or_h : zH := fun i => none
def or_g : zG := [(29, concat_c), (11, norm_c)]
theorem or_eq (v : PDen or_c.ps) : semF tbl (gam or_g) or_h fuN 10 (bodyOf Try.f16) [(0, .int IntKind.i64)] or_c.ps or_c.rs [4] [] v = or_c.g v := by kernel_rfl
def byDoc1_s4 (a3 : tR) (a5 : (Int × List Int)) (a9 : tP) (a10 : Int) (a11 : Int) (a16 : List Int) (a17 : Int) (a18 : Int) (q1 : tO) : Option (((tR × (Int × List Int) × tP × Int × Int × List Int × Int × Int × Unit) × tO × Unit) ⊕ ((tR × tP × Int × Int × Unit) × tO × Unit)) :=
 bif (decide (a18 < a17)) then
 ((lk a16 a18).bind fun x5 =>
 ((show Option ((tR × (Int × List Int) × Int × tP × Int × Int × List Int × Int × Int × Bool × Unit) × tO × Unit) from
 bif (decide (a5.1 ≥ 0)) then
 some ((a3, a5, x5, a9, a10, a11, a16, a17, a18, (decide (x5 ≥ 0)), ()), q1, ())
 else
 some ((a3, a5, x5, a9, a10, a11, a16, a17, a18, false, ()), q1, ())).bind fun y7 =>
 bif y7.1.2.2.2.2.2.2.2.2.2.1 then
 let v8 := ((mget y7.1.1 y7.1.2.1.1).getD (none : Option (Nat × Nat × Nat)))
 ((hget y7.2.1 v8).bind fun l9 =>
 bif (roomOk (l9.length + [y7.1.2.2.1].length) 8) then
 let l10 := (mset y7.1.1 y7.1.2.1.1 (some ((hset y7.2.1 v8 none).length, 0, (l9 ++ [y7.1.2.2.1]).length)))
 some (.inl ((l10, y7.1.2.1, y7.1.2.2.2.1, y7.1.2.2.2.2.1, y7.1.2.2.2.2.2.1, y7.1.2.2.2.2.2.2.1, y7.1.2.2.2.2.2.2.2.1, (IntKind.i64.wrap (y7.1.2.2.2.2.2.2.2.2.1 + 1)), ()), ((hset y7.2.1 v8 none) ++ [some (l9 ++ [y7.1.2.2.1])]), ()))
 else none)
 else
 some (.inl ((y7.1.1, y7.1.2.1, y7.1.2.2.2.1, y7.1.2.2.2.2.1, y7.1.2.2.2.2.2.1, y7.1.2.2.2.2.2.2.1, y7.1.2.2.2.2.2.2.2.1, (IntKind.i64.wrap (y7.1.2.2.2.2.2.2.2.2.1 + 1)), ()), y7.2.1, ()))))
 else
 some (.inr ((a3, a9, a10, a11, ()), q1, ()))
def byDoc1_s1 (a3 : tR) (a9 : tP) (a10 : Int) (a11 : Int) (q1 : tO) : Option (((tR × tP × Int × Int × Unit) × tO × Unit) ⊕ ((tR × Unit) × tO × Unit)) :=
 bif (decide (a11 < a10)) then
 ((lk a9 a11).bind fun x2 =>
 ((iterN (fun x => byDoc1_s4 x.1.1 x.1.2.1 x.1.2.2.1 x.1.2.2.2.1 x.1.2.2.2.2.1 x.1.2.2.2.2.2.1 x.1.2.2.2.2.2.2.1 x.1.2.2.2.2.2.2.2.1 x.2.1) fuN ((a3, x2, a9, a10, a11, x2.2, (x2.2.length : Int), (0 : Int), ()), q1, ())).bind fun y11 =>
 some (.inl ((y11.1.1, y11.1.2.1, y11.1.2.2.1, (IntKind.i64.wrap (y11.1.2.2.2.1 + 1)), ()), y11.2.1, ()))))
 else
 some (.inr ((a3, ()), q1, ()))
def byDoc1 (p0 : tP) : Option (Unit × ((tO × Unit) × tR) × Unit) :=
 ((iterN (fun x => byDoc1_s1 x.1.1 x.1.2.1 x.1.2.2.1 x.1.2.2.2.1 x.2.1) fuN ((([] : tR), p0, (p0.length : Int), (0 : Int), ()), ([] : tO), ())).bind fun y12 =>
 some ((), (cnP [(1, .int IntKind.i64)] (.mpc IntKind.i64 (.psl 1)) (y12.2.1, ()) y12.1.1), ()))
def byDoc1_c : Ctr := ⟨[.ro s0], [.ownp [(1, yi64)] (.mpc IntKind.i64 (.psl 1))], fun v => byDoc1 v.1⟩
def byDoc1_h : zH := fun i => if i = 3 then some ⟨⟨[(3, (.mpc IntKind.i64 (.psl 1))), (9, s0), (10, yi64), (11, yi64)], [], [(1, yi64)]⟩, [((.exit 0), ⟨[(3, (.mpc IntKind.i64 (.psl 1)))], [], [(1, yi64)]⟩)]⟩ else if i = 6 then some ⟨⟨[(3, (.mpc IntKind.i64 (.psl 1))), (5, .bx y0), (9, s0), (10, yi64), (11, yi64), (16, .slice yi64), (17, yi64), (18, yi64)], [], [(1, yi64)]⟩, [((.exit 2), ⟨[(3, (.mpc IntKind.i64 (.psl 1))), (9, s0), (10, yi64), (11, yi64)], [], [(1, yi64)]⟩)]⟩ else if i = 1080009 then some ⟨⟨[], [], []⟩, [(.normal, ⟨[(3, (.mpc IntKind.i64 (.psl 1))), (5, .bx y0), (7, yi64), (9, s0), (10, yi64), (11, yi64), (16, .slice yi64), (17, yi64), (18, yi64), (28, .bool)], [], [(1, yi64)]⟩)]⟩ else none
def byDoc1_g : zG := []
theorem byDoc1_eq (v : PDen byDoc1_c.ps) : semF tbl (gam byDoc1_g) byDoc1_h fuN 42 (bodyOf Try.f26) [(1, .int IntKind.i64)] byDoc1_c.ps byDoc1_c.rs [2] [] v = byDoc1_c.g v := by kernel_rfl
def andF (p0 : Int) (p1 : tP) (p2 : tP) : Option (Unit × Bool × Unit) :=
 let v1 := (decide ((((mget p1 p0).getD ([] : List Int)).length : Int) > 0))
 bif v1 then
 let v2 := (decide ((((mget p2 p0).getD ([] : List Int)).length : Int) > 0))
 some ((), v2, ())
 else
 some ((), false, ())
def andF_c : Ctr := ⟨[.ro yi64, .ro (.rad (.fmp IntKind.i64 (.slice yi64)) 0), .ro (.rad (.fmp IntKind.i64 (.slice yi64)) 0)], [.val .bool], fun v => andF v.1 v.2.1 v.2.2.1⟩
def andF_h : zH := fun i => none
theorem andF_eq : EqB andF_c [] andF_h 17 Try.f32 [4] [] := fun v => by kernel_rfl
def keptA_s1 (a1 : (tP × tP × Unit)) (a5 : tR) (a8 : tR) (a9 : Int) (a10 : Int) (q0 : tO) : Option ((((tP × tP × Unit) × tR × tR × Int × Int × Unit) × tO × Unit) ⊕ ((tR × Unit) × tO × Unit)) :=
 bif (decide (a10 < a9)) then
 ((lk a8 a10).bind fun _x2 =>
 ((lk a8 a10).bind fun x3 =>
 ((andF x3.1 a1.1 a1.2.1).bind fun r4 =>
 bif r4.2.1 then
 bif (roomOk (a5.length + [x3].length) 32) then
 some (.inl ((a1, (a5 ++ [x3]), a8, a9, (IntKind.i64.wrap (a10 + 1)), ()), q0, ()))
 else none
 else
 some (.inl ((a1, a5, a8, a9, (IntKind.i64.wrap (a10 + 1)), ()), q0, ())))))
 else
 some (.inr ((a5, ()), q0, ()))
def keptA (p0 : ((tO × Unit) × tR)) (p1 : (tP × tP × Unit)) : Option (Unit × ((tO × Unit) × tR) × Unit) :=
 ((iterN (fun x => keptA_s1 x.1.1 x.1.2.1 x.1.2.2.1 x.1.2.2.2.1 x.1.2.2.2.2.1 x.2.1) fuN ((p1, ([] : tR), p0.2, (p0.2.length : Int), (0 : Int), ()), p0.1.1, ())).bind fun y5 =>
 some ((), (cnP [(0, .int IntKind.i64)] (.vec (.st (.pair (.int IntKind.i64) (.psl 0)))) (y5.2.1, ()) y5.1.1), ()))
def keptA_c : Ctr := ⟨[.ownp [(0, yi64)] y1, .ro (.clo 32 (.pair (.rad (.fmp IntKind.i64 (.slice yi64)) 0) (.pair (.rad (.fmp IntKind.i64 (.slice yi64)) 0) .unit)))], [.ownp [(0, yi64)] y1], fun v => keptA v.1 v.2.1⟩
def keptA_h : zH := fun i => if i = 3 then some ⟨⟨[(1, (.clo 32 (.pair (.rad (.fmp IntKind.i64 (.slice yi64)) 0) (.pair (.rad (.fmp IntKind.i64 (.slice yi64)) 0) .unit)))), (5, y1), (8, y1), (9, yi64), (10, yi64)], [], [(0, yi64)]⟩, [((.exit 0), ⟨[(5, y1)], [], [(0, yi64)]⟩)]⟩ else none
def keptA_g : zG := [(32, andF_c)]
theorem keptA_eq : EqB keptA_c keptA_g keptA_h 24 Try.f31 [4] [] := fun v => by kernel_rfl
def and (p0 : tP) (p1 : tP) : Option (Unit × ((tO × Unit) × tR) × Unit) :=
 ((byDoc1 p0).bind fun r0 =>
 let l1 := (List.map (fun p => (p.1, (shH ([] : tO).length p.2))) r0.2.1.2)
 let l2 := (([] : tO) ++ shL' ([] : tO) (fun (u : Int) => u) r0.2.1.1.1)
 ((byDoc1 p1).bind fun r3 =>
 ((or p0 p1).bind fun r4 =>
 let l5 := (List.map (fun u => (u.1, (shH ([] : tO).length u.2))) r4.2.1.2)
 let l6 := (([] : tO) ++ shL' ([] : tO) (fun (u : Int) => u) r4.2.1.1.1)
 bif (((List.all l1 (fun p => (hok (l2 ++ shL' l2 (fun (u : Int) => u) r3.2.1.1.1) p.2))) && ((List.all (List.map (fun p => (p.1, (shH l2.length p.2))) r3.2.1.2) (fun p => (hok (l2 ++ shL' l2 (fun (u : Int) => u) r3.2.1.1.1) p.2))) && true)) && true) then
 ((keptA ((l6, ()), l5) ((List.map (fun p => (p.1, (hgetD (l2 ++ shL' l2 (fun (u : Int) => u) r3.2.1.1.1) p.2))) l1), (List.map (fun p => (p.1, (hgetD (l2 ++ shL' l2 (fun (u : Int) => u) r3.2.1.1.1) p.2))) (List.map (fun p => (p.1, (shH l2.length p.2))) r3.2.1.2)), ())).bind fun r7 =>
 let l8 := (List.map (fun u => (u.1, (shH (List.map (fun _ => (none : Option (List Int))) l6).length u.2))) r7.2.1.2)
 let l9 := ((List.map (fun _ => (none : Option (List Int))) l6) ++ shL' (List.map (fun _ => (none : Option (List Int))) l6) (fun (u : Int) => u) r7.2.1.1.1)
 some ((), (cnP [(0, .int IntKind.i64)] (.vec (.st (.pair (.int IntKind.i64) (.psl 0)))) (l9, ()) l8), ()))
 else none)))
def and_c : Ctr := ⟨[.ro s0, .ro s0], [.ownp [(0, yi64)] y1], fun v => and v.1 v.2.1⟩
def and_h : zH := fun i => none
def and_g : zG := [(16, or_c), (26, byDoc1_c), (31, keptA_c)]
theorem and_eq (v : PDen and_c.ps) : semF tbl (gam and_g) and_h fuN 16 (bodyOf Try.f18) [(0, .int IntKind.i64), (1, .int IntKind.i64)] and_c.ps and_c.rs [4] [] v = and_c.g v := by kernel_rfl
def minusF (p0 : Int) (p1 : tP) : Option (Unit × Bool × Unit) :=
 let v1 := ((((mget p1 p0).getD ([] : List Int)).length : Int) == 0)
 some ((), v1, ())
def minusF_c : Ctr := ⟨[.ro yi64, .ro (.rad (.fmp IntKind.i64 (.slice yi64)) 0)], [.val .bool], fun v => minusF v.1 v.2.1⟩
def minusF_h : zH := fun i => none
theorem minusF_eq : EqB minusF_c [] minusF_h 9 Try.f34 [3] [] := fun v => by kernel_rfl
def keptM_s1 (a1 : (tP × Unit)) (a5 : tR) (a8 : tR) (a9 : Int) (a10 : Int) (q0 : tO) : Option ((((tP × Unit) × tR × tR × Int × Int × Unit) × tO × Unit) ⊕ ((tR × Unit) × tO × Unit)) :=
 bif (decide (a10 < a9)) then
 ((lk a8 a10).bind fun _x2 =>
 ((lk a8 a10).bind fun x3 =>
 ((minusF x3.1 a1.1).bind fun r4 =>
 bif r4.2.1 then
 bif (roomOk (a5.length + [x3].length) 32) then
 some (.inl ((a1, (a5 ++ [x3]), a8, a9, (IntKind.i64.wrap (a10 + 1)), ()), q0, ()))
 else none
 else
 some (.inl ((a1, a5, a8, a9, (IntKind.i64.wrap (a10 + 1)), ()), q0, ())))))
 else
 some (.inr ((a5, ()), q0, ()))
def keptM (p0 : ((tO × Unit) × tR)) (p1 : (tP × Unit)) : Option (Unit × ((tO × Unit) × tR) × Unit) :=
 ((iterN (fun x => keptM_s1 x.1.1 x.1.2.1 x.1.2.2.1 x.1.2.2.2.1 x.1.2.2.2.2.1 x.2.1) fuN ((p1, ([] : tR), p0.2, (p0.2.length : Int), (0 : Int), ()), p0.1.1, ())).bind fun y5 =>
 some ((), (cnP [(0, .int IntKind.i64)] (.vec (.st (.pair (.int IntKind.i64) (.psl 0)))) (y5.2.1, ()) y5.1.1), ()))
def keptM_c : Ctr := ⟨[.ownp [(0, yi64)] y1, .ro (.clo 34 (.pair (.rad (.fmp IntKind.i64 (.slice yi64)) 0) .unit))], [.ownp [(0, yi64)] y1], fun v => keptM v.1 v.2.1⟩
def keptM_h : zH := fun i => if i = 3 then some ⟨⟨[(1, (.clo 34 (.pair (.rad (.fmp IntKind.i64 (.slice yi64)) 0) .unit))), (5, y1), (8, y1), (9, yi64), (10, yi64)], [], [(0, yi64)]⟩, [((.exit 0), ⟨[(5, y1)], [], [(0, yi64)]⟩)]⟩ else none
def keptM_g : zG := [(34, minusF_c)]
theorem keptM_eq : EqB keptM_c keptM_g keptM_h 24 Try.f31 [4] [] := fun v => by kernel_rfl
def minus (p0 : tP) (p1 : tP) : Option (Unit × ((tO × Unit) × tR) × Unit) :=
 ((byDoc1 p1).bind fun r0 =>
 let l1 := (List.map (fun p => (p.1, (shH ([] : tO).length p.2))) r0.2.1.2)
 let l2 := (([] : tO) ++ shL' ([] : tO) (fun (u : Int) => u) r0.2.1.1.1)
 ((norm p0).bind fun r3 =>
 let l4 := (List.map (fun u => (u.1, (shH ([] : tO).length u.2))) r3.2.1.2)
 let l5 := (([] : tO) ++ shL' ([] : tO) (fun (u : Int) => u) r3.2.1.1.1)
 bif (((List.all l1 (fun p => (hok l2 p.2))) && true) && true) then
 ((keptM ((l5, ()), l4) ((List.map (fun p => (p.1, (hgetD l2 p.2))) l1), ())).bind fun r6 =>
 let l7 := (List.map (fun u => (u.1, (shH (List.map (fun _ => (none : Option (List Int))) l5).length u.2))) r6.2.1.2)
 let l8 := ((List.map (fun _ => (none : Option (List Int))) l5) ++ shL' (List.map (fun _ => (none : Option (List Int))) l5) (fun (u : Int) => u) r6.2.1.1.1)
 some ((), (cnP [(0, .int IntKind.i64)] (.vec (.st (.pair (.int IntKind.i64) (.psl 0)))) (l8, ()) l7), ()))
 else none))
def minus_c : Ctr := ⟨[.ro s0, .ro s0], [.ownp [(0, yi64)] y1], fun v => minus v.1 v.2.1⟩
def minus_h : zH := fun i => none
def minus_g : zG := [(11, norm_c), (26, byDoc1_c), (31, keptM_c)]
theorem minus_eq (v : PDen minus_c.ps) : semF tbl (gam minus_g) minus_h fuN 12 (bodyOf Try.f20) [(0, .int IntKind.i64), (1, .int IntKind.i64)] minus_c.ps minus_c.rs [4] [] v = minus_c.g v := by kernel_rfl
def isNaNs (p0 : Int) : Option (Unit × Bool × Unit) :=
 some ((), (p0 != p0), ())
def isNaNs_c : Ctr := ⟨[.ro yi64], [.val .bool], fun v => isNaNs v.1⟩
def isNaNs_h : zH := fun i => none
theorem isNaNs_eq : EqB isNaNs_c [] isNaNs_h 6 Try.f48 [2] [] := fun v => by kernel_rfl
def binSearch_s3 (a0 : List Int) (a1 : Int) (a6 : Int) (a7 : Int) (a8 : Int) : Option ((List Int × Int × Int × Int × Int × Unit) ⊕ (List Int × Int × Int × Int × Unit)) :=
 ((show Option ((List Int × Int × Int × Int × Int × Unit) ⊕ (List Int × Int × Int × Int × Unit)) from
 bif (decide (a7 < a8)) then
 some (.inl (a0, a1, a6, a7, a8, ()))
 else
 some (.inr (a0, a1, a6, a7, ()))).bind fun y5 =>
 (match y5 with
 | .inl y5 =>
 let v6 := (IntKind.u64.wrap ((IntKind.i64.wrap (y5.2.2.2.1 + y5.2.2.2.2.1))))
 bif (decide (0 ≤ (1 : Int))) then
 let v7 := (IntKind.i64.wrap ((Int.fdiv v6 (2 ^ (min (1 : Int).toNat IntKind.u64.bits)))))
 ((lk y5.1 v7).bind fun x8 =>
 ((i_less x8 y5.2.1).bind fun r9 =>
 bif r9.2.1 then
 some (.inl (y5.1, y5.2.1, y5.2.2.1, (IntKind.i64.wrap (v7 + 1)), y5.2.2.2.2.1, ()))
 else
 some (.inl (y5.1, y5.2.1, y5.2.2.1, y5.2.2.2.1, v7, ()))))
 else none
 | .inr y5 =>
 some (.inr (y5.1, y5.2.1, y5.2.2.1, y5.2.2.2.1, ()))))
def binSearch (p0 : List Int) (p1 : Int) : Option (Unit × Int × Bool × Unit) :=
 ((show Option (List Int × Int × Int × Int × Unit) from
 ((iterN (fun x => binSearch_s3 x.1 x.2.1 x.2.2.1 x.2.2.2.1 x.2.2.2.2.1) fuN (p0, p1, (p0.length : Int), (0 : Int), (p0.length : Int), ())).bind fun y10 =>
 some (y10.1, y10.2.1, y10.2.2.1, y10.2.2.2.1, ()))).bind fun y11 =>
 bif (decide (y11.2.2.2.1 < y11.2.2.1)) then
 ((lk y11.1 y11.2.2.2.1).bind fun x12 =>
 bif (x12 == y11.2.1) then
 some ((), y11.2.2.2.1, true, ())
 else
 ((lk y11.1 y11.2.2.2.1).bind fun x13 =>
 ((isNaNs x13).bind fun r14 =>
 bif r14.2.1 then
 ((isNaNs y11.2.1).bind fun r15 =>
 some ((), y11.2.2.2.1, r15.2.1, ()))
 else
 some ((), y11.2.2.2.1, false, ()))))
 else
 some ((), y11.2.2.2.1, false, ()))
def binSearch_c : Ctr := ⟨[.ro (.slice yi64), .ro yi64], [.val yi64, .val .bool], fun v => binSearch v.1 v.2.1⟩
def binSearch_h : zH := fun i => if i = 1030008 then zC [zN [(0, .slice yi64), (1, yi64), (6, yi64), (7, yi64)]] else if i = 3 then zL [(0, .slice yi64), (1, yi64), (6, yi64), (7, yi64), (8, yi64)] [zX 0 [(0, .slice yi64), (1, yi64), (6, yi64), (7, yi64)]] else if i = 1030004 then zC [zN [(0, .slice yi64), (1, yi64), (6, yi64), (7, yi64), (8, yi64)], zX 0 [(0, .slice yi64), (1, yi64), (6, yi64), (7, yi64)]] else none
def binSearch_g : zG := [(47, i_less_c), (48, isNaNs_c)]
theorem binSearch_eq : EqB binSearch_c binSearch_g binSearch_h 54 Try.f38 [4, 5] [] := fun v => by kernel_rfl
def phraseF (p0 : Int) (p1 : Int) (p2 : List Int) : Option (Unit × Bool × Unit) :=
 ((show Option ((Bool × Unit) ⊕ (Int × Int × List Int × Unit)) from
 let v2 := (IntKind.i64.wrap ((IntKind.i64.wrap ((9223372036854775807 : Int) - p1)) - 1))
 bif (decide (p0 > v2)) then
 some (.inl (true, ()))
 else
 some (.inr (p0, p1, p2, ()))).bind fun y3 =>
 (match y3 with
 | .inl y3 =>
 some ((), y3.1, ())
 | .inr y3 =>
 let v4 := (IntKind.i64.wrap ((IntKind.i64.wrap (y3.1 + y3.2.1)) + 1))
 ((binSearch y3.2.2.1 v4).bind fun r5 =>
 some ((), (!r5.2.2.1), ()))))
def phraseF_c : Ctr := ⟨[.ro yi64, .ro (.rad yi64 0), .ro (.rad (.slice yi64) 0)], [.val .bool], fun v => phraseF v.1 v.2.1 v.2.2.1⟩
def phraseF_h : zH := fun i => if i = 1010003 then zC [zR [(4, .bool)], zN [(0, yi64), (1, (.rad yi64 0)), (2, (.rad (.slice yi64) 0))]] else none
def phraseF_g : zG := [(38, binSearch_c)]
theorem phraseF_eq : EqB phraseF_c phraseF_g phraseF_h 23 Try.f37 [4] [] := fun v => by kernel_rfl
def indexFunc_s2 (a0 : List Int) (a1 : (Int × List Int × Unit)) (a7 : Int) (a8 : Int) : Option ((List Int × (Int × List Int × Unit) × Int × Int × Unit) ⊕ ((Int × Unit) ⊕ Unit)) :=
 bif (decide (a8 < a7)) then
 ((lk a0 a8).bind fun x3 =>
 ((phraseF x3 a1.1 a1.2.1).bind fun r4 =>
 bif r4.2.1 then
 some (.inr (.inl (a8, ())))
 else
 some (.inl (a0, a1, a7, (IntKind.i64.wrap (a8 + 1)), ()))))
 else
 some (.inr (.inr ()))
def indexFunc (p0 : List Int) (p1 : (Int × List Int × Unit)) : Option (Unit × Int × Unit) :=
 ((iterN (fun x => indexFunc_s2 x.1 x.2.1 x.2.2.1 x.2.2.2.1) fuN (p0, p1, (p0.length : Int), (0 : Int), ())).bind fun y5 =>
 (match y5 with
 | .inl y5 =>
 some ((), y5.1, ())
 | .inr y5 =>
 some ((), (-1 : Int), ())))
def indexFunc_c : Ctr := ⟨[.ro (.slice yi64), .ro y4], [.val yi64], fun v => indexFunc v.1 v.2.1⟩
def indexFunc_h : zH := fun i => if i = 2 then zL [(0, .slice yi64), (1, y4), (7, yi64), (8, yi64)] [zR [(4, yi64)], zX 0 []] else none
def indexFunc_g : zG := [(37, phraseF_c)]
theorem indexFunc_eq : EqB indexFunc_c indexFunc_g indexFunc_h 19 Try.f46 [4] [] := fun v => by kernel_rfl
def deleteFunc_s6 (a0 : List Int) (a1 : (Int × List Int × Unit)) (a5 : Int) (a6 : Int) : Option ((List Int × (Int × List Int × Unit) × Int × Int × Unit) ⊕ (List Int × Int × Unit)) :=
 ((show Option ((List Int × (Int × List Int × Unit) × Int × Int × Unit) ⊕ (List Int × Int × Unit)) from
 bif (decide (a6 < (a0.length : Int))) then
 some (.inl (a0, a1, a5, a6, ()))
 else
 some (.inr (a0, a5, ()))).bind fun y8 =>
 (match y8 with
 | .inl y8 =>
 ((show Option (List Int × (Int × List Int × Unit) × Int × Int × Unit) from
 ((lk y8.1 y8.2.2.2.1).bind fun _x10 =>
 ((lk y8.1 y8.2.2.2.1).bind fun x11 =>
 ((phraseF x11 y8.2.1.1 y8.2.1.2.1).bind fun r12 =>
 bif (!r12.2.1) then
 ((lk y8.1 y8.2.2.1).bind fun _x13 =>
 ((lk y8.1 y8.2.2.1).bind fun x14 =>
 some ((y8.1.set y8.2.2.1.toNat x11), y8.2.1, (IntKind.i64.wrap (y8.2.2.1 + 1)), y8.2.2.2.1, ())))
 else
 some (y8.1, y8.2.1, y8.2.2.1, y8.2.2.2.1, ()))))).bind fun y15 =>
 some (.inl (y15.1, y15.2.1, y15.2.2.1, (IntKind.i64.wrap (y15.2.2.2.1 + 1)), ())))
 | .inr y8 =>
 some (.inr (y8.1, y8.2.1, ()))))
def deleteFunc (p0 : List Int) (p1 : (Int × List Int × Unit)) : Option (Unit × List Int × Unit) :=
 ((indexFunc p0 p1).bind fun r1 =>
 ((show Option ((List Int × Unit) ⊕ (List Int × (Int × List Int × Unit) × Int × Unit)) from
 bif (r1.2.1 == (-1 : Int)) then
 some (.inl (p0, ()))
 else
 some (.inr (p0, p1, r1.2.1, ()))).bind fun y3 =>
 (match y3 with
 | .inl y3 =>
 some ((), y3.1, ())
 | .inr y3 =>
 ((show Option (List Int × Int × Unit) from
 ((iterN (fun x => deleteFunc_s6 x.1 x.2.1 x.2.2.1 x.2.2.2.1) fuN (y3.1, y3.2.1, y3.2.2.1, (IntKind.i64.wrap (y3.2.2.1 + 1)), ())).bind fun y16 =>
 some (y16.1, y16.2.1, ()))).bind fun y17 =>
 bif (inB y17.2.1 (y17.1.length : Int) y17.1.length) then
 let l18 := (clrL y17.1 y17.2.1.toNat ((y17.1.length : Int) - y17.2.1).toNat (0 : Int))
 bif (inB (0 : Int) y17.2.1 l18.length) then
 some ((), (((l18).drop (0 : Int).toNat).take (y17.2.1 - 0).toNat), ())
 else none
 else none))))
def deleteFunc_c : Ctr := ⟨[.own (.vec yi64), .ro y4], [.own (.vec yi64)], fun v => deleteFunc v.1 v.2.1⟩
def deleteFunc_h : zH := fun i => if i = 1040011 then zC [zN [(0, .vec yi64), (5, yi64)]] else if i = 5 then zL [(0, .vec yi64), (1, y4), (5, yi64), (6, yi64)] [zX 0 [(0, .vec yi64), (5, yi64)]] else if i = 1070006 then zC [zN [(0, .vec yi64), (1, y4), (5, yi64), (6, yi64)]] else if i = 1050007 then zC [zN [(0, .vec yi64), (1, y4), (5, yi64), (6, yi64)], zX 0 [(0, .vec yi64), (5, yi64)]] else if i = 1020004 then zC [zR [(4, .vec yi64)], zN [(0, .vec yi64), (1, y4), (5, yi64)]] else none
def deleteFunc_g : zG := [(37, phraseF_c), (46, indexFunc_c)]
theorem deleteFunc_eq : EqB deleteFunc_c deleteFunc_g deleteFunc_h 42 Try.f36 [4] [] := fun v => by kernel_rfl
def phrase_s11 (a4 : Int) (a6 : tR) (a7 : tR) (a19 : List tP) (a20 : Int) (a21 : Int) (a28 : tR) (a29 : Int) (a30 : Int) (q0 : tO) (q1 : tO) : Option (((Int × tR × tR × List tP × Int × Int × tR × Int × Int × Unit) × tO × tO × Unit) ⊕ ((tR × List tP × Int × Int × Unit) × tO × tO × Unit)) :=
 bif (decide (a30 < a29)) then
 ((lk a28 a30).bind fun _x12 =>
 ((lk a28 a30).bind fun x13 =>
 bif (((hok q1 ((mget a6 x13.1).getD (none : Option (Nat × Nat × Nat)))) && (hall q1 ((mget a6 x13.1).getD (none : Option (Nat × Nat × Nat))))) && true) then
 ((sortI (hgetD q1 ((mget a6 x13.1).getD (none : Option (Nat × Nat × Nat))))).bind fun r14 =>
 let l15 := (hset q1 ((mget a6 x13.1).getD (none : Option (Nat × Nat × Nat))) (some r14.1))
 bif ((hok q0 x13.2) && (((hok l15 ((mget a6 x13.1).getD (none : Option (Nat × Nat × Nat)))) && true) && true)) then
 ((deleteFunc (hgetD q0 x13.2) (a4, (hgetD l15 ((mget a6 x13.1).getD (none : Option (Nat × Nat × Nat)))), ())).bind fun r16 =>
 bif (decide ((r16.2.1.length : Int) > 0)) then
 bif (roomOk (a7.length + [(x13.1, (some ((hset q0 x13.2 none).length, 0, r16.2.1.length)))].length) 32) then
 let l17 := (a7 ++ [(x13.1, (some ((hset q0 x13.2 none).length, 0, r16.2.1.length)))])
 some (.inl ((a4, a6, l17, a19, a20, a21, a28, a29, (IntKind.i64.wrap (a30 + 1)), ()), ((hset q0 x13.2 none) ++ [some r16.2.1]), l15, ()))
 else none
 else
 some (.inl ((a4, a6, a7, a19, a20, a21, a28, a29, (IntKind.i64.wrap (a30 + 1)), ()), (hset q0 x13.2 none), l15, ())))
 else none)
 else none))
 else
 some (.inr ((a7, a19, a20, a21, ()), q0, q1, ()))
def phrase_s6 (a3 : tR) (a19 : List tP) (a20 : Int) (a21 : Int) (q0 : tO) (q1 : tO) : Option (((tR × List tP × Int × Int × Unit) × tO × tO × Unit) ⊕ ((tR × Unit) × tO × tO × Unit)) :=
 bif (decide (a21 < a20)) then
 ((lk a19 a21).bind fun x7 =>
 ((byDoc1 x7).bind fun r8 =>
 ((iterN (fun x => phrase_s11 x.1.1 x.1.2.1 x.1.2.2.1 x.1.2.2.2.1 x.1.2.2.2.2.1 x.1.2.2.2.2.2.1 x.1.2.2.2.2.2.2.1 x.1.2.2.2.2.2.2.2.1 x.1.2.2.2.2.2.2.2.2.1 x.2.1 x.2.2.1) fuN ((a21, (List.map (fun p => (p.1, (shH q1.length p.2))) r8.2.1.2), ([] : tR), a19, a20, a21, a3, (a3.length : Int), (0 : Int), ()), q0, (q1 ++ shL' q1 (fun (u : Int) => u) r8.2.1.1.1), ())).bind fun y18 =>
 some (.inl ((y18.1.1, y18.1.2.1, y18.1.2.2.1, (IntKind.i64.wrap (y18.1.2.2.2.1 + 1)), ()), y18.2.1, y18.2.2.1, ())))))
 else
 some (.inr ((a3, ()), q0, q1, ()))
def phrase (p0 : List tP) : Option (Unit × ((tO × Unit) × tR) × Unit) :=
 ((show Option (((Unit × Unit) × tO × tO × Unit) ⊕ ((List tP × Unit) × tO × tO × Unit)) from
 bif ((p0.length : Int) == 0) then
 some (.inl (((), ()), ([] : tO), ([] : tO), ()))
 else
 some (.inr ((p0, ()), ([] : tO), ([] : tO), ()))).bind fun y1 =>
 (match y1 with
 | .inl y1 =>
 some ((), (cnP [(0, .int IntKind.i64)] (.vec (.st (.pair (.int IntKind.i64) (.psl 0)))) (y1.2.1, ()) ([] : tR)), ())
 | .inr y1 =>
 ((lk y1.1.1 (0 : Int)).bind fun x2 =>
 ((norm x2).bind fun r3 =>
 let l4 := (List.map (fun u => (u.1, (shH y1.2.1.length u.2))) r3.2.1.2)
 bif (inB (1 : Int) (y1.1.1.length : Int) y1.1.1.length) then
 ((iterN (fun x => phrase_s6 x.1.1 x.1.2.1 x.1.2.2.1 x.1.2.2.2.1 x.2.1 x.2.2.1) fuN ((l4, (cut y1.1.1 (1 : Int) (y1.1.1.length : Int)), ((cut y1.1.1 (1 : Int) (y1.1.1.length : Int)).length : Int), (0 : Int), ()), (y1.2.1 ++ shL' y1.2.1 (fun (u : Int) => u) r3.2.1.1.1), y1.2.2.1, ())).bind fun y19 =>
 some ((), (cnP [(0, .int IntKind.i64)] (.vec (.st (.pair (.int IntKind.i64) (.psl 0)))) (y19.2.1, ()) y19.1.1), ()))
 else none))))
def phrase_c : Ctr := ⟨[.ro (.slice s0)], [.ownp [(0, yi64)] y1], fun v => phrase v.1⟩
def phrase_h : zH := fun i => if i = 5 then some ⟨⟨[(3, y1), (19, .slice s0), (20, yi64), (21, yi64)], [], [(0, yi64), (1, yi64)]⟩, [((.exit 0), ⟨[(3, y1)], [], [(0, yi64), (1, yi64)]⟩)]⟩ else if i = 10 then some ⟨⟨[(4, (.rad yi64 0)), (6, (.mpc IntKind.i64 (.psl 1))), (7, y1), (19, .slice s0), (20, yi64), (21, yi64), (28, y1), (29, yi64), (30, yi64)], [], [(0, yi64), (1, yi64)]⟩, [((.exit 2), ⟨[(7, y1), (19, .slice s0), (20, yi64), (21, yi64)], [], [(0, yi64), (1, yi64)]⟩)]⟩ else if i = 1010003 then some ⟨⟨[], [], []⟩, [(.ret, ⟨[(2, .nils)], [], [(0, yi64), (1, yi64)]⟩), (.normal, ⟨[(0, .slice s0)], [], [(0, yi64), (1, yi64)]⟩)]⟩ else none
def phrase_g : zG := [(35, sortI_c), (11, norm_c), (26, byDoc1_c), (36, deleteFunc_c)]
theorem phrase_eq (v : PDen phrase_c.ps) : semF tbl (gam phrase_g) phrase_h fuN 57 (bodyOf Try.f22) [(0, .int IntKind.i64), (1, .int IntKind.i64)] phrase_c.ps phrase_c.rs [2] [] v = phrase_c.g v := by kernel_rfl
def fixed : Option (Unit × Bool × Unit) :=
 let l1 := (some (([] : tO).length, 0, [(0 : Int), (4 : Int)].length))
 let l2 := (some ((([] : tO) ++ [some [(0 : Int), (4 : Int)]]).length, 0, [(2 : Int)].length))
 let l3 := ((([] : tO) ++ [some [(0 : Int), (4 : Int)]]) ++ [some [(2 : Int)]])
 let l4 := (some ((l3 ++ [some [(1 : Int)]]).length, 0, [(9 : Int)].length))
 bif ((List.all [((1 : Int), l1), ((3 : Int), l2)] (fun u => (hok ((l3 ++ [some [(1 : Int)]]) ++ [some [(9 : Int)]]) u.2))) && ((List.all [((1 : Int), (some (l3.length, 0, [(1 : Int)].length))), ((2 : Int), l4)] (fun u => (hok ((l3 ++ [some [(1 : Int)]]) ++ [some [(9 : Int)]]) u.2))) && true)) then
 ((or (List.map (fun u => (u.1, (hgetD ((l3 ++ [some [(1 : Int)]]) ++ [some [(9 : Int)]]) u.2))) [((1 : Int), l1), ((3 : Int), l2)]) (List.map (fun u => (u.1, (hgetD ((l3 ++ [some [(1 : Int)]]) ++ [some [(9 : Int)]]) u.2))) [((1 : Int), (some (l3.length, 0, [(1 : Int)].length))), ((2 : Int), l4)])).bind fun r5 =>
 let l6 := (List.map (fun u => (u.1, (shH ((l3 ++ [some [(1 : Int)]]) ++ [some [(9 : Int)]]).length u.2))) r5.2.1.2)
 let l7 := (((l3 ++ [some [(1 : Int)]]) ++ [some [(9 : Int)]]) ++ shL' ((l3 ++ [some [(1 : Int)]]) ++ [some [(9 : Int)]]) (fun (u : Int) => u) r5.2.1.1.1)
 bif ((l6.length : Int) == 3) then
 bif ((List.all [((1 : Int), l1), ((3 : Int), l2)] (fun u => (hok l7 u.2))) && ((List.all [((1 : Int), (some (l3.length, 0, [(1 : Int)].length))), ((2 : Int), l4)] (fun u => (hok l7 u.2))) && true)) then
 ((and (List.map (fun u => (u.1, (hgetD l7 u.2))) [((1 : Int), l1), ((3 : Int), l2)]) (List.map (fun u => (u.1, (hgetD l7 u.2))) [((1 : Int), (some (l3.length, 0, [(1 : Int)].length))), ((2 : Int), l4)])).bind fun r8 =>
 let v9 := ((List.map (fun u => (u.1, (shH l7.length u.2))) r8.2.1.2).length : Int)
 bif (v9 == 1) then
 bif ((List.all [((1 : Int), l1), ((3 : Int), l2)] (fun u => (hok (l7 ++ shL' l7 (fun (u : Int) => u) r8.2.1.1.1) u.2))) && ((List.all [((1 : Int), (some (l3.length, 0, [(1 : Int)].length))), ((2 : Int), l4)] (fun u => (hok (l7 ++ shL' l7 (fun (u : Int) => u) r8.2.1.1.1) u.2))) && true)) then
 ((and (List.map (fun u => (u.1, (hgetD (l7 ++ shL' l7 (fun (u : Int) => u) r8.2.1.1.1) u.2))) [((1 : Int), l1), ((3 : Int), l2)]) (List.map (fun u => (u.1, (hgetD (l7 ++ shL' l7 (fun (u : Int) => u) r8.2.1.1.1) u.2))) [((1 : Int), (some (l3.length, 0, [(1 : Int)].length))), ((2 : Int), l4)])).bind fun r10 =>
 let l11 := (List.map (fun u => (u.1, (shH (l7 ++ shL' l7 (fun (u : Int) => u) r8.2.1.1.1).length u.2))) r10.2.1.2)
 let l12 := ((l7 ++ shL' l7 (fun (u : Int) => u) r8.2.1.1.1) ++ shL' (l7 ++ shL' l7 (fun (u : Int) => u) r8.2.1.1.1) (fun (u : Int) => u) r10.2.1.1.1)
 ((lk l11 (0 : Int)).bind fun _x13 =>
 ((lk l11 (0 : Int)).bind fun x14 =>
 bif (((hlen x14.2 : Nat) : Int) == 3) then
 bif ((List.all [((1 : Int), l1), ((3 : Int), l2)] (fun u => (hok l12 u.2))) && ((List.all [((1 : Int), (some (l3.length, 0, [(1 : Int)].length))), ((2 : Int), l4)] (fun u => (hok l12 u.2))) && true)) then
 ((minus (List.map (fun u => (u.1, (hgetD l12 u.2))) [((1 : Int), l1), ((3 : Int), l2)]) (List.map (fun u => (u.1, (hgetD l12 u.2))) [((1 : Int), (some (l3.length, 0, [(1 : Int)].length))), ((2 : Int), l4)])).bind fun r15 =>
 let v16 := ((List.map (fun u => (u.1, (shH l12.length u.2))) r15.2.1.2).length : Int)
 bif (v16 == 1) then
 bif ((List.all [[((1 : Int), l1), ((3 : Int), l2)], [((1 : Int), (some (l3.length, 0, [(1 : Int)].length))), ((2 : Int), l4)]] (fun u => (List.all u (fun u => (hok (l12 ++ shL' l12 (fun (u : Int) => u) r15.2.1.1.1) u.2))))) && true) then
 ((phrase (List.map (fun u => (List.map (fun u => (u.1, (hgetD (l12 ++ shL' l12 (fun (u : Int) => u) r15.2.1.1.1) u.2))) u)) [[((1 : Int), l1), ((3 : Int), l2)], [((1 : Int), (some (l3.length, 0, [(1 : Int)].length))), ((2 : Int), l4)]])).bind fun r17 =>
 let l18 := (List.map (fun u => (u.1, (shH (l12 ++ shL' l12 (fun (u : Int) => u) r15.2.1.1.1).length u.2))) r17.2.1.2)
 let l19 := ((l12 ++ shL' l12 (fun (u : Int) => u) r15.2.1.1.1) ++ shL' (l12 ++ shL' l12 (fun (u : Int) => u) r15.2.1.1.1) (fun (u : Int) => u) r17.2.1.1.1)
 bif ((List.all l18 (fun u => (hok (l19 ++ [some [(0 : Int)]]) u.2))) && ((List.all [((1 : Int), (some (l19.length, 0, [(0 : Int)].length)))] (fun u => (hok (l19 ++ [some [(0 : Int)]]) u.2))) && true)) then
 ((same (List.map (fun u => (u.1, (hgetD (l19 ++ [some [(0 : Int)]]) u.2))) l18) (List.map (fun u => (u.1, (hgetD (l19 ++ [some [(0 : Int)]]) u.2))) [((1 : Int), (some (l19.length, 0, [(0 : Int)].length)))])).bind fun r20 =>
 bif r20.2.1 then
 bif ((List.all [((1 : Int), l1), ((3 : Int), l2)] (fun u => (hok (l19 ++ [some [(0 : Int)]]) u.2))) && true) then
 ((docs (List.map (fun u => (u.1, (hgetD (l19 ++ [some [(0 : Int)]]) u.2))) [((1 : Int), l1), ((3 : Int), l2)])).bind fun r21 =>
 bif ((r21.2.1.length : Int) == 2) then
 let l22 := (some ((l19 ++ [some [(0 : Int)]]).length, 0, [(0 : Int)].length))
 bif ((List.all [((-1 : Int), l22), ((4 : Int), (none : Option (Nat × Nat × Nat)))] (fun u => (hok ((l19 ++ [some [(0 : Int)]]) ++ [some [(0 : Int)]]) u.2))) && true) then
 ((norm (List.map (fun u => (u.1, (hgetD ((l19 ++ [some [(0 : Int)]]) ++ [some [(0 : Int)]]) u.2))) [((-1 : Int), l22), ((4 : Int), (none : Option (Nat × Nat × Nat)))])).bind fun r23 =>
 let l24 := (List.map (fun u => (u.1, (shH ((l19 ++ [some [(0 : Int)]]) ++ [some [(0 : Int)]]).length u.2))) r23.2.1.2)
 let l25 := (((l19 ++ [some [(0 : Int)]]) ++ [some [(0 : Int)]]) ++ shL' ((l19 ++ [some [(0 : Int)]]) ++ [some [(0 : Int)]]) (fun (u : Int) => u) r23.2.1.1.1)
 some ((), ((l24.length : Int) == 0), ()))
 else none
 else
 some ((), false, ()))
 else none
 else
 some ((), false, ()))
 else none)
 else none
 else
 some ((), false, ()))
 else none
 else
 some ((), false, ()))))
 else none
 else
 some ((), false, ()))
 else none
 else
 some ((), false, ()))
 else none
def fixed_c : Ctr := ⟨[], [.val .bool], fun v => fixed⟩
def fixed_h : zH := fun i => none
def fixed_g : zG := [(10, same_c), (11, norm_c), (14, docs_c), (16, or_c), (18, and_c), (20, minus_c), (22, phrase_c)]
theorem fixed_eq (v : PDen fixed_c.ps) : semF tbl (gam fixed_g) fixed_h fuN 67 (bodyOf Try.f9) [(0, .int IntKind.i64)] fixed_c.ps fixed_c.rs [0] [] v = fixed_c.g v := by kernel_rfl
def lOps (p0 : tP) (p1 : tP) : Option (Unit × Bool × Unit) :=
 ((fixed).bind fun r1 =>
 bif r1.2.1 then
 ((norm p0).bind fun r2 =>
 let l3 := (List.map (fun u => (u.1, (shH ([] : tO).length u.2))) r2.2.1.2)
 let l4 := (([] : tO) ++ shL' ([] : tO) (fun (u : Int) => u) r2.2.1.1.1)
 ((refNorm p0).bind fun r5 =>
 bif ((List.all l3 (fun u => (hok l4 u.2))) && true) then
 ((same (List.map (fun u => (u.1, (hgetD l4 u.2))) l3) r5.2.1).bind fun r6 =>
 bif r6.2.1 then
 ((docs p0).bind fun r7 =>
 ((refDocs p0).bind fun r8 =>
 ((sameN r7.2.1 r8.2.1).bind fun r9 =>
 bif r9.2.1 then
 ((or p0 p1).bind fun r10 =>
 ((refOr p0 p1).bind fun r11 =>
 bif ((List.all (List.map (fun u => (u.1, (shH l4.length u.2))) r10.2.1.2) (fun u => (hok (l4 ++ shL' l4 (fun (u : Int) => u) r10.2.1.1.1) u.2))) && true) then
 ((same (List.map (fun u => (u.1, (hgetD (l4 ++ shL' l4 (fun (u : Int) => u) r10.2.1.1.1) u.2))) (List.map (fun u => (u.1, (shH l4.length u.2))) r10.2.1.2)) r11.2.1).bind fun r12 =>
 bif r12.2.1 then
 ((and p0 p1).bind fun r13 =>
 let l14 := (List.map (fun u => (u.1, (shH (l4 ++ shL' l4 (fun (u : Int) => u) r10.2.1.1.1).length u.2))) r13.2.1.2)
 let l15 := ((l4 ++ shL' l4 (fun (u : Int) => u) r10.2.1.1.1) ++ shL' (l4 ++ shL' l4 (fun (u : Int) => u) r10.2.1.1.1) (fun (u : Int) => u) r13.2.1.1.1)
 ((refAnd p0 p1).bind fun r16 =>
 bif ((List.all l14 (fun u => (hok l15 u.2))) && true) then
 ((same (List.map (fun u => (u.1, (hgetD l15 u.2))) l14) r16.2.1).bind fun r17 =>
 bif r17.2.1 then
 ((minus p0 p1).bind fun r18 =>
 ((refMinus p0 p1).bind fun r19 =>
 bif ((List.all (List.map (fun u => (u.1, (shH l15.length u.2))) r18.2.1.2) (fun u => (hok (l15 ++ shL' l15 (fun (u : Int) => u) r18.2.1.1.1) u.2))) && true) then
 ((same (List.map (fun u => (u.1, (hgetD (l15 ++ shL' l15 (fun (u : Int) => u) r18.2.1.1.1) u.2))) (List.map (fun u => (u.1, (shH l15.length u.2))) r18.2.1.2)) r19.2.1).bind fun r20 =>
 some ((), r20.2.1, ()))
 else none))
 else
 some ((), false, ()))
 else none))
 else
 some ((), false, ()))
 else none))
 else
 some ((), false, ()))))
 else
 some ((), false, ()))
 else none))
 else
 some ((), false, ()))
def lOps_c : Ctr := ⟨[.ro s0, .ro s0], [.val .bool], fun v => lOps v.1 v.2.1⟩
def lOps_h : zH := fun i => none
def lOps_g : zG := [(12, refNorm_c), (15, refDocs_c), (17, refOr_c), (19, refAnd_c), (21, refMinus_c), (10, same_c), (13, sameN_c), (11, norm_c), (14, docs_c), (16, or_c), (18, and_c), (20, minus_c), (9, fixed_c)]
theorem lOps_eq (v : PDen lOps_c.ps) : semF tbl (gam lOps_g) lOps_h fuN 47 (bodyOf Try.f3) [(0, .int IntKind.i64)] lOps_c.ps lOps_c.rs [4] [] v = lOps_c.g v := by kernel_rfl
def lPhrases (p0 : List tP) : Option (Unit × Bool × Unit) :=
 ((fixed).bind fun r1 =>
 bif r1.2.1 then
 ((phrase p0).bind fun r2 =>
 let l3 := (List.map (fun u => (u.1, (shH ([] : tO).length u.2))) r2.2.1.2)
 let l4 := (([] : tO) ++ shL' ([] : tO) (fun (u : Int) => u) r2.2.1.1.1)
 ((refPhrase p0).bind fun r5 =>
 bif ((List.all l3 (fun u => (hok l4 u.2))) && true) then
 ((same (List.map (fun u => (u.1, (hgetD l4 u.2))) l3) r5.2.1).bind fun r6 =>
 some ((), r6.2.1, ()))
 else none))
 else
 some ((), false, ()))
def lPhrases_c : Ctr := ⟨[.ro (.slice s0)], [.val .bool], fun v => lPhrases v.1⟩
def lPhrases_h : zH := fun i => none
def lPhrases_g : zG := [(23, refPhrase_c), (10, same_c), (22, phrase_c), (9, fixed_c)]
theorem lPhrases_eq (v : PDen lPhrases_c.ps) : semF tbl (gam lPhrases_g) lPhrases_h fuN 11 (bodyOf Try.f4) [(0, .int IntKind.i64)] lPhrases_c.ps lPhrases_c.rs [2] [] v = lPhrases_c.g v := by kernel_rfl
def lAlgebra (p0 : tP) (p1 : tP) : Option (Unit × Bool × Unit) :=
 ((show Option (((Bool × Unit) × tO × Unit) ⊕ ((tP × tP × Unit) × tO × Unit)) from
 ((fixed).bind fun r2 =>
 bif (!r2.2.1) then
 some (.inl ((false, ()), ([] : tO), ()))
 else
 some (.inr ((p0, p1, ()), ([] : tO), ())))).bind fun y3 =>
 (match y3 with
 | .inl y3 =>
 some ((), y3.1.1, ())
 | .inr y3 =>
 ((and y3.1.1 y3.1.2.1).bind fun r4 =>
 let l5 := (List.map (fun u => (u.1, (shH y3.2.1.length u.2))) r4.2.1.2)
 ((minus y3.1.1 y3.1.2.1).bind fun r6 =>
 let l7 := (List.map (fun u => (u.1, (shH (y3.2.1 ++ shL' y3.2.1 (fun (u : Int) => u) r4.2.1.1.1).length u.2))) r6.2.1.2)
 let l8 := ((y3.2.1 ++ shL' y3.2.1 (fun (u : Int) => u) r4.2.1.1.1) ++ shL' (y3.2.1 ++ shL' y3.2.1 (fun (u : Int) => u) r4.2.1.1.1) (fun (u : Int) => u) r6.2.1.1.1)
 ((show Option (((Bool × Unit) × tO × Unit) ⊕ ((tP × tP × tR × tR × Unit) × tO × Unit)) from
 ((or y3.1.1 y3.1.2.1).bind fun r10 =>
 ((or y3.1.2.1 y3.1.1).bind fun r11 =>
 let l12 := (List.map (fun u => (u.1, (shH (l8 ++ shL' l8 (fun (u : Int) => u) r10.2.1.1.1).length u.2))) r11.2.1.2)
 let l13 := ((l8 ++ shL' l8 (fun (u : Int) => u) r10.2.1.1.1) ++ shL' (l8 ++ shL' l8 (fun (u : Int) => u) r10.2.1.1.1) (fun (u : Int) => u) r11.2.1.1.1)
 bif ((List.all (List.map (fun u => (u.1, (shH l8.length u.2))) r10.2.1.2) (fun u => (hok l13 u.2))) && ((List.all l12 (fun u => (hok l13 u.2))) && true)) then
 ((same (List.map (fun u => (u.1, (hgetD l13 u.2))) (List.map (fun u => (u.1, (shH l8.length u.2))) r10.2.1.2)) (List.map (fun u => (u.1, (hgetD l13 u.2))) l12)).bind fun r14 =>
 bif (!r14.2.1) then
 some (.inl ((false, ()), l13, ()))
 else
 ((and y3.1.2.1 y3.1.1).bind fun r15 =>
 bif ((List.all l5 (fun u => (hok (l13 ++ shL' l13 (fun (u : Int) => u) r15.2.1.1.1) u.2))) && ((List.all (List.map (fun u => (u.1, (shH l13.length u.2))) r15.2.1.2) (fun u => (hok (l13 ++ shL' l13 (fun (u : Int) => u) r15.2.1.1.1) u.2))) && true)) then
 ((same (List.map (fun u => (u.1, (hgetD (l13 ++ shL' l13 (fun (u : Int) => u) r15.2.1.1.1) u.2))) l5) (List.map (fun u => (u.1, (hgetD (l13 ++ shL' l13 (fun (u : Int) => u) r15.2.1.1.1) u.2))) (List.map (fun u => (u.1, (shH l13.length u.2))) r15.2.1.2))).bind fun r16 =>
 bif (!r16.2.1) then
 some (.inl ((false, ()), (l13 ++ shL' l13 (fun (u : Int) => u) r15.2.1.1.1), ()))
 else
 ((phrase [y3.1.1]).bind fun r17 =>
 let l18 := (List.map (fun u => (u.1, (shH (l13 ++ shL' l13 (fun (u : Int) => u) r15.2.1.1.1).length u.2))) r17.2.1.2)
 let l19 := ((l13 ++ shL' l13 (fun (u : Int) => u) r15.2.1.1.1) ++ shL' (l13 ++ shL' l13 (fun (u : Int) => u) r15.2.1.1.1) (fun (u : Int) => u) r17.2.1.1.1)
 ((norm y3.1.1).bind fun r20 =>
 bif ((List.all l18 (fun u => (hok (l19 ++ shL' l19 (fun (u : Int) => u) r20.2.1.1.1) u.2))) && ((List.all (List.map (fun u => (u.1, (shH l19.length u.2))) r20.2.1.2) (fun u => (hok (l19 ++ shL' l19 (fun (u : Int) => u) r20.2.1.1.1) u.2))) && true)) then
 ((same (List.map (fun u => (u.1, (hgetD (l19 ++ shL' l19 (fun (u : Int) => u) r20.2.1.1.1) u.2))) l18) (List.map (fun u => (u.1, (hgetD (l19 ++ shL' l19 (fun (u : Int) => u) r20.2.1.1.1) u.2))) (List.map (fun u => (u.1, (shH l19.length u.2))) r20.2.1.2))).bind fun r21 =>
 bif (!r21.2.1) then
 some (.inl ((false, ()), (l19 ++ shL' l19 (fun (u : Int) => u) r20.2.1.1.1), ()))
 else
 ((docs y3.1.1).bind fun r22 =>
 let v23 := ((IntKind.i64.wrap ((l5.length : Int) + (l7.length : Int))) != (r22.2.1.length : Int))
 bif v23 then
 some (.inl ((false, ()), (l19 ++ shL' l19 (fun (u : Int) => u) r20.2.1.1.1), ()))
 else
 some (.inr ((y3.1.1, y3.1.2.1, l5, l7, ()), (l19 ++ shL' l19 (fun (u : Int) => u) r20.2.1.1.1), ()))))
 else none)))
 else none))
 else none))).bind fun y24 =>
 (match y24 with
 | .inl y24 =>
 some ((), y24.1.1, ())
 | .inr y24 =>
 ((show Option (((Bool × Unit) × tO × Unit) ⊕ ((tP × tP × tR × Unit) × tO × Unit)) from
 bif (List.isEmpty ([] : tP) && roomOk y24.1.2.2.1.length 32) then
 bif (roomOk (y24.1.2.2.1.length + y24.1.2.2.2.1.length) 32) then
 bif ((List.all (y24.1.2.2.1 ++ y24.1.2.2.2.1) (fun u => (hok y24.2.1 u.2))) && true) then
 ((docs (List.map (fun u => (u.1, (hgetD y24.2.1 u.2))) (y24.1.2.2.1 ++ y24.1.2.2.2.1))).bind fun r26 =>
 ((docs y24.1.1).bind fun r27 =>
 ((sameN r26.2.1 r27.2.1).bind fun r28 =>
 bif (!r28.2.1) then
 some (.inl ((false, ()), y24.2.1, ()))
 else
 some (.inr ((y24.1.1, y24.1.2.1, y24.1.2.2.1, ()), y24.2.1, ())))))
 else none
 else none
 else none).bind fun y29 =>
 (match y29 with
 | .inl y29 =>
 some ((), y29.1.1, ())
 | .inr y29 =>
 ((phrase [y29.1.1, y29.1.2.1]).bind fun r30 =>
 let l31 := (List.map (fun u => (u.1, (shH y29.2.1.length u.2))) r30.2.1.2)
 bif ((List.all l31 (fun u => (hok (y29.2.1 ++ shL' y29.2.1 (fun (u : Int) => u) r30.2.1.1.1) u.2))) && true) then
 ((or (List.map (fun u => (u.1, (hgetD (y29.2.1 ++ shL' y29.2.1 (fun (u : Int) => u) r30.2.1.1.1) u.2))) l31) y29.1.1).bind fun r32 =>
 let l33 := (List.map (fun u => (u.1, (shH (y29.2.1 ++ shL' y29.2.1 (fun (u : Int) => u) r30.2.1.1.1).length u.2))) r32.2.1.2)
 let l34 := ((y29.2.1 ++ shL' y29.2.1 (fun (u : Int) => u) r30.2.1.1.1) ++ shL' (y29.2.1 ++ shL' y29.2.1 (fun (u : Int) => u) r30.2.1.1.1) (fun (u : Int) => u) r32.2.1.1.1)
 ((norm y29.1.1).bind fun r35 =>
 bif ((List.all l33 (fun u => (hok (l34 ++ shL' l34 (fun (u : Int) => u) r35.2.1.1.1) u.2))) && ((List.all (List.map (fun u => (u.1, (shH l34.length u.2))) r35.2.1.2) (fun u => (hok (l34 ++ shL' l34 (fun (u : Int) => u) r35.2.1.1.1) u.2))) && true)) then
 ((same (List.map (fun u => (u.1, (hgetD (l34 ++ shL' l34 (fun (u : Int) => u) r35.2.1.1.1) u.2))) l33) (List.map (fun u => (u.1, (hgetD (l34 ++ shL' l34 (fun (u : Int) => u) r35.2.1.1.1) u.2))) (List.map (fun u => (u.1, (shH l34.length u.2))) r35.2.1.2))).bind fun r36 =>
 bif r36.2.1 then
 bif ((List.all l31 (fun u => (hok (l34 ++ shL' l34 (fun (u : Int) => u) r35.2.1.1.1) u.2))) && ((List.all y29.1.2.2.1 (fun u => (hok (l34 ++ shL' l34 (fun (u : Int) => u) r35.2.1.1.1) u.2))) && true)) then
 ((minus (List.map (fun u => (u.1, (hgetD (l34 ++ shL' l34 (fun (u : Int) => u) r35.2.1.1.1) u.2))) l31) (List.map (fun u => (u.1, (hgetD (l34 ++ shL' l34 (fun (u : Int) => u) r35.2.1.1.1) u.2))) y29.1.2.2.1)).bind fun r37 =>
 let l38 := (List.map (fun u => (u.1, (shH (l34 ++ shL' l34 (fun (u : Int) => u) r35.2.1.1.1).length u.2))) r37.2.1.2)
 let l39 := ((l34 ++ shL' l34 (fun (u : Int) => u) r35.2.1.1.1) ++ shL' (l34 ++ shL' l34 (fun (u : Int) => u) r35.2.1.1.1) (fun (u : Int) => u) r37.2.1.1.1)
 bif ((l38.length : Int) == 0) then
 some ((), (decide ((l31.length : Int) ≤ (y29.1.2.2.1.length : Int))), ())
 else
 some ((), false, ()))
 else none
 else
 some ((), false, ()))
 else none))
 else none)))))))))
def lAlgebra_c : Ctr := ⟨[.ro s0, .ro s0], [.val .bool], fun v => lAlgebra v.1 v.2.1⟩
def lAlgebra_h : zH := fun i => if i = 1060008 then some ⟨⟨[], [], []⟩, [(.ret, ⟨[(4, .bool)], [], [(0, yi64)]⟩), (.normal, ⟨[(0, s0), (1, s0), (5, y1)], [], [(0, yi64)]⟩)]⟩ else if i = 1040006 then some ⟨⟨[], [], []⟩, [(.ret, ⟨[(4, .bool)], [], [(0, yi64)]⟩), (.normal, ⟨[(0, s0), (1, s0), (5, y1), (6, y1)], [], [(0, yi64)]⟩)]⟩ else if i = 1010003 then some ⟨⟨[], [], []⟩, [(.ret, ⟨[(4, .bool)], [], [(0, yi64)]⟩), (.normal, ⟨[(0, s0), (1, s0)], [], [(0, yi64)]⟩)]⟩ else none
def lAlgebra_g : zG := [(10, same_c), (13, sameN_c), (11, norm_c), (14, docs_c), (16, or_c), (18, and_c), (20, minus_c), (22, phrase_c), (9, fixed_c)]
theorem lAlgebra_eq (v : PDen lAlgebra_c.ps) : semF tbl (gam lAlgebra_g) lAlgebra_h fuN 86 (bodyOf Try.f5) [(0, .int IntKind.i64)] lAlgebra_c.ps lAlgebra_c.rs [4] [] v = lAlgebra_c.g v := by kernel_rfl
def lThree (p0 : tP) (p1 : tP) (p2 : tP) : Option (Unit × Bool × Unit) :=
 ((show Option (((Bool × Unit) × tO × Unit) ⊕ ((tP × tP × tP × Unit) × tO × Unit)) from
 ((fixed).bind fun r2 =>
 bif (!r2.2.1) then
 some (.inl ((false, ()), ([] : tO), ()))
 else
 some (.inr ((p0, p1, p2, ()), ([] : tO), ())))).bind fun y3 =>
 (match y3 with
 | .inl y3 =>
 some ((), y3.1.1, ())
 | .inr y3 =>
 ((phrase [y3.1.1, y3.1.2.1, y3.1.2.2.1]).bind fun r4 =>
 let l5 := (List.map (fun u => (u.1, (shH y3.2.1.length u.2))) r4.2.1.2)
 ((phrase [y3.1.1, y3.1.2.1]).bind fun r6 =>
 let l7 := (List.map (fun u => (u.1, (shH (y3.2.1 ++ shL' y3.2.1 (fun (u : Int) => u) r4.2.1.1.1).length u.2))) r6.2.1.2)
 let l8 := ((y3.2.1 ++ shL' y3.2.1 (fun (u : Int) => u) r4.2.1.1.1) ++ shL' (y3.2.1 ++ shL' y3.2.1 (fun (u : Int) => u) r4.2.1.1.1) (fun (u : Int) => u) r6.2.1.1.1)
 ((or y3.1.1 y3.1.2.1).bind fun r9 =>
 bif ((List.all (List.map (fun u => (u.1, (shH l8.length u.2))) r9.2.1.2) (fun u => (hok (l8 ++ shL' l8 (fun (u : Int) => u) r9.2.1.1.1) u.2))) && true) then
 ((or (List.map (fun u => (u.1, (hgetD (l8 ++ shL' l8 (fun (u : Int) => u) r9.2.1.1.1) u.2))) (List.map (fun u => (u.1, (shH l8.length u.2))) r9.2.1.2)) y3.1.2.2.1).bind fun r10 =>
 let l11 := (List.map (fun u => (u.1, (shH (l8 ++ shL' l8 (fun (u : Int) => u) r9.2.1.1.1).length u.2))) r10.2.1.2)
 let l12 := ((l8 ++ shL' l8 (fun (u : Int) => u) r9.2.1.1.1) ++ shL' (l8 ++ shL' l8 (fun (u : Int) => u) r9.2.1.1.1) (fun (u : Int) => u) r10.2.1.1.1)
 ((or y3.1.2.1 y3.1.2.2.1).bind fun r13 =>
 bif ((List.all (List.map (fun u => (u.1, (shH l12.length u.2))) r13.2.1.2) (fun u => (hok (l12 ++ shL' l12 (fun (u : Int) => u) r13.2.1.1.1) u.2))) && true) then
 ((or y3.1.1 (List.map (fun u => (u.1, (hgetD (l12 ++ shL' l12 (fun (u : Int) => u) r13.2.1.1.1) u.2))) (List.map (fun u => (u.1, (shH l12.length u.2))) r13.2.1.2))).bind fun r14 =>
 let l15 := (List.map (fun u => (u.1, (shH (l12 ++ shL' l12 (fun (u : Int) => u) r13.2.1.1.1).length u.2))) r14.2.1.2)
 let l16 := ((l12 ++ shL' l12 (fun (u : Int) => u) r13.2.1.1.1) ++ shL' (l12 ++ shL' l12 (fun (u : Int) => u) r13.2.1.1.1) (fun (u : Int) => u) r14.2.1.1.1)
 bif ((List.all l11 (fun u => (hok l16 u.2))) && ((List.all l15 (fun u => (hok l16 u.2))) && true)) then
 ((same (List.map (fun u => (u.1, (hgetD l16 u.2))) l11) (List.map (fun u => (u.1, (hgetD l16 u.2))) l15)).bind fun r17 =>
 bif r17.2.1 then
 ((and y3.1.1 y3.1.2.1).bind fun r18 =>
 bif ((List.all (List.map (fun u => (u.1, (shH l16.length u.2))) r18.2.1.2) (fun u => (hok (l16 ++ shL' l16 (fun (u : Int) => u) r18.2.1.1.1) u.2))) && true) then
 ((and (List.map (fun u => (u.1, (hgetD (l16 ++ shL' l16 (fun (u : Int) => u) r18.2.1.1.1) u.2))) (List.map (fun u => (u.1, (shH l16.length u.2))) r18.2.1.2)) y3.1.2.2.1).bind fun r19 =>
 let l20 := (List.map (fun u => (u.1, (shH (l16 ++ shL' l16 (fun (u : Int) => u) r18.2.1.1.1).length u.2))) r19.2.1.2)
 let l21 := ((l16 ++ shL' l16 (fun (u : Int) => u) r18.2.1.1.1) ++ shL' (l16 ++ shL' l16 (fun (u : Int) => u) r18.2.1.1.1) (fun (u : Int) => u) r19.2.1.1.1)
 ((and y3.1.2.1 y3.1.2.2.1).bind fun r22 =>
 bif ((List.all (List.map (fun u => (u.1, (shH l21.length u.2))) r22.2.1.2) (fun u => (hok (l21 ++ shL' l21 (fun (u : Int) => u) r22.2.1.1.1) u.2))) && true) then
 ((and y3.1.1 (List.map (fun u => (u.1, (hgetD (l21 ++ shL' l21 (fun (u : Int) => u) r22.2.1.1.1) u.2))) (List.map (fun u => (u.1, (shH l21.length u.2))) r22.2.1.2))).bind fun r23 =>
 let l24 := (List.map (fun u => (u.1, (shH (l21 ++ shL' l21 (fun (u : Int) => u) r22.2.1.1.1).length u.2))) r23.2.1.2)
 let l25 := ((l21 ++ shL' l21 (fun (u : Int) => u) r22.2.1.1.1) ++ shL' (l21 ++ shL' l21 (fun (u : Int) => u) r22.2.1.1.1) (fun (u : Int) => u) r23.2.1.1.1)
 bif ((List.all l20 (fun u => (hok l25 u.2))) && ((List.all l24 (fun u => (hok l25 u.2))) && true)) then
 ((same (List.map (fun u => (u.1, (hgetD l25 u.2))) l20) (List.map (fun u => (u.1, (hgetD l25 u.2))) l24)).bind fun r26 =>
 bif r26.2.1 then
 bif ((List.all l5 (fun u => (hok l25 u.2))) && ((List.all l7 (fun u => (hok l25 u.2))) && true)) then
 ((or (List.map (fun u => (u.1, (hgetD l25 u.2))) l5) (List.map (fun u => (u.1, (hgetD l25 u.2))) l7)).bind fun r27 =>
 bif ((List.all (List.map (fun u => (u.1, (shH l25.length u.2))) r27.2.1.2) (fun u => (hok (l25 ++ shL' l25 (fun (u : Int) => u) r27.2.1.1.1) u.2))) && ((List.all l7 (fun u => (hok (l25 ++ shL' l25 (fun (u : Int) => u) r27.2.1.1.1) u.2))) && true)) then
 ((same (List.map (fun u => (u.1, (hgetD (l25 ++ shL' l25 (fun (u : Int) => u) r27.2.1.1.1) u.2))) (List.map (fun u => (u.1, (shH l25.length u.2))) r27.2.1.2)) (List.map (fun u => (u.1, (hgetD (l25 ++ shL' l25 (fun (u : Int) => u) r27.2.1.1.1) u.2))) l7)).bind fun r28 =>
 bif r28.2.1 then
 ((minus y3.1.1 y3.1.2.1).bind fun r29 =>
 let l30 := (List.map (fun u => (u.1, (shH (l25 ++ shL' l25 (fun (u : Int) => u) r27.2.1.1.1).length u.2))) r29.2.1.2)
 let l31 := ((l25 ++ shL' l25 (fun (u : Int) => u) r27.2.1.1.1) ++ shL' (l25 ++ shL' l25 (fun (u : Int) => u) r27.2.1.1.1) (fun (u : Int) => u) r29.2.1.1.1)
 bif ((List.all l30 (fun u => (hok l31 u.2))) && true) then
 ((minus (List.map (fun u => (u.1, (hgetD l31 u.2))) l30) y3.1.2.2.1).bind fun r32 =>
 ((or y3.1.2.1 y3.1.2.2.1).bind fun r33 =>
 let l34 := (List.map (fun u => (u.1, (shH (l31 ++ shL' l31 (fun (u : Int) => u) r32.2.1.1.1).length u.2))) r33.2.1.2)
 let l35 := ((l31 ++ shL' l31 (fun (u : Int) => u) r32.2.1.1.1) ++ shL' (l31 ++ shL' l31 (fun (u : Int) => u) r32.2.1.1.1) (fun (u : Int) => u) r33.2.1.1.1)
 bif ((List.all l34 (fun u => (hok l35 u.2))) && true) then
 ((minus y3.1.1 (List.map (fun u => (u.1, (hgetD l35 u.2))) l34)).bind fun r36 =>
 bif ((List.all (List.map (fun u => (u.1, (shH l31.length u.2))) r32.2.1.2) (fun u => (hok (l35 ++ shL' l35 (fun (u : Int) => u) r36.2.1.1.1) u.2))) && ((List.all (List.map (fun u => (u.1, (shH l35.length u.2))) r36.2.1.2) (fun u => (hok (l35 ++ shL' l35 (fun (u : Int) => u) r36.2.1.1.1) u.2))) && true)) then
 ((same (List.map (fun u => (u.1, (hgetD (l35 ++ shL' l35 (fun (u : Int) => u) r36.2.1.1.1) u.2))) (List.map (fun u => (u.1, (shH l31.length u.2))) r32.2.1.2)) (List.map (fun u => (u.1, (hgetD (l35 ++ shL' l35 (fun (u : Int) => u) r36.2.1.1.1) u.2))) (List.map (fun u => (u.1, (shH l35.length u.2))) r36.2.1.2))).bind fun r37 =>
 some ((), r37.2.1, ()))
 else none)
 else none))
 else none)
 else
 some ((), false, ()))
 else none)
 else none
 else
 some ((), false, ()))
 else none)
 else none))
 else none)
 else
 some ((), false, ()))
 else none)
 else none))
 else none)))))
def lThree_c : Ctr := ⟨[.ro s0, .ro s0, .ro s0], [.val .bool], fun v => lThree v.1 v.2.1 v.2.2.1⟩
def lThree_h : zH := fun i => if i = 1010003 then some ⟨⟨[], [], []⟩, [(.ret, ⟨[(6, .bool)], [], [(0, yi64)]⟩), (.normal, ⟨[(0, s0), (1, s0), (2, s0)], [], [(0, yi64)]⟩)]⟩ else none
def lThree_g : zG := [(10, same_c), (16, or_c), (18, and_c), (20, minus_c), (22, phrase_c), (9, fixed_c)]
theorem lThree_eq (v : PDen lThree_c.ps) : semF tbl (gam lThree_g) lThree_h fuN 64 (bodyOf Try.f7) [(0, .int IntKind.i64)] lThree_c.ps lThree_c.rs [6] [] v = lThree_c.g v := by kernel_rfl
end
end
end Go.Vu.Mg
