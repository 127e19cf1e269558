/- The sort's values' functions over any type (written by mksort.py out of the print). -/
import Derived.Test.YtaeobljnmfbdmaaVuRt
set_option linter.unusedVariables false
set_option maxRecDepth 100000
namespace Go.Vu.Srt
noncomputable section
open Go Go.Vu
def len64 (p0 : Int) : Option (Unit × (Int × Unit)) :=
 (Option.bind (show Option (Int × (Int × Unit)) from
 bif (decide (p0 ≥ (4294967296 : Int))) then
 bif (decide (0 ≤ (32 : Int))) then
 some ((Int.fdiv p0 (2 ^ (min (32 : Int).toNat IntKind.u64.bits))), ((32 : Int), ()))
 else none
 else
 some (p0, ((0 : Int), ()))) fun y2 =>
 (Option.bind (show Option (Int × (Int × Unit)) from
 bif (decide (y2.1 ≥ (65536 : Int))) then
 bif (decide (0 ≤ (16 : Int))) then
 let v4 := (Int.fdiv y2.1 (2 ^ (min (16 : Int).toNat IntKind.u64.bits)))
 some (v4, ((IntKind.i64.wrap (y2.2.1 + (16 : Int))), ()))
 else none
 else
 some (y2.1, (y2.2.1, ()))) fun y5 =>
 (Option.bind (show Option (Int × (Int × Unit)) from
 bif (decide (y5.1 ≥ (256 : Int))) then
 bif (decide (0 ≤ (8 : Int))) then
 some ((Int.fdiv y5.1 (2 ^ (min (8 : Int).toNat IntKind.u64.bits))), ((IntKind.i64.wrap (y5.2.1 + (8 : Int))), ()))
 else none
 else
 some (y5.1, (y5.2.1, ()))) fun y7 =>
 (Option.bind (lk ([0, 1, 2, 2, 3, 3, 3, 3, 4, 4, 4, 4, 4, 4, 4, 4, 5, 5, 5, 5, 5, 5, 5, 5, 5, 5, 5, 5, 5, 5, 5, 5, 6, 6, 6, 6, 6, 6, 6, 6, 6, 6, 6, 6, 6, 6, 6, 6, 6, 6, 6, 6, 6, 6, 6, 6, 6, 6, 6, 6, 6, 6, 6, 6, 7, 7, 7, 7, 7, 7, 7, 7, 7, 7, 7, 7, 7, 7, 7, 7, 7, 7, 7, 7, 7, 7, 7, 7, 7, 7, 7, 7, 7, 7, 7, 7, 7, 7, 7, 7, 7, 7, 7, 7, 7, 7, 7, 7, 7, 7, 7, 7, 7, 7, 7, 7, 7, 7, 7, 7, 7, 7, 7, 7, 7, 7, 7, 7, 8, 8, 8, 8, 8, 8, 8, 8, 8, 8, 8, 8, 8, 8, 8, 8, 8, 8, 8, 8, 8, 8, 8, 8, 8, 8, 8, 8, 8, 8, 8, 8, 8, 8, 8, 8, 8, 8, 8, 8, 8, 8, 8, 8, 8, 8, 8, 8, 8, 8, 8, 8, 8, 8, 8, 8, 8, 8, 8, 8, 8, 8, 8, 8, 8, 8, 8, 8, 8, 8, 8, 8, 8, 8, 8, 8, 8, 8, 8, 8, 8, 8, 8, 8, 8, 8, 8, 8, 8, 8, 8, 8, 8, 8, 8, 8, 8, 8, 8, 8, 8, 8, 8, 8, 8, 8, 8, 8, 8, 8, 8, 8, 8, 8, 8, 8, 8, 8, 8, 8, 8, 8, 8, 8, 8, 8, 8, 8] : List UInt8) (IntKind.u8.wrap (y7.1))) fun b8 =>
 let v9 := (IntKind.i64.wrap (y7.2.1 + (IntKind.i64.wrap ((b8.toNat : Int)))))
 some ((), (v9, ()))))))
def bitsLen (p0 : Int) : Option (Unit × (Int × Unit)) :=
 (Option.bind (show Option (Int × Unit) from
 some (p0, ())) fun y2 =>
 (Option.bind (len64 y2.1) fun r3 =>
 some ((), (r3.2.1, ()))))
def nextPow (p0 : Int) : Option (Unit × (Int × Unit)) :=
 (Option.bind (bitsLen (IntKind.u64.wrap (p0))) fun r1 =>
 bif (decide (0 ≤ r1.2.1)) then
 let v2 := (IntKind.u64.wrap ((1 : Int) * 2 ^ (min r1.2.1.toNat IntKind.u64.bits)))
 some ((), (v2, ()))
 else none)
def xorNext (p0 : Int) : Option (Int × (Int × Unit)) :=
 bif (decide (0 ≤ (13 : Int))) then
 let v1 := (IntKind.u64.wrap (p0 * 2 ^ (min (13 : Int).toNat IntKind.u64.bits)))
 let v2 := (IntKind.u64.wrap (((BitVec.ofInt IntKind.u64.bits p0 ^^^ BitVec.ofInt IntKind.u64.bits v1).toNat : Int)))
 bif (decide (0 ≤ (7 : Int))) then
 let v3 := (IntKind.u64.wrap (((BitVec.ofInt IntKind.u64.bits v2 ^^^ BitVec.ofInt IntKind.u64.bits (Int.fdiv v2 (2 ^ (min (7 : Int).toNat IntKind.u64.bits)))).toNat : Int)))
 bif (decide (0 ≤ (17 : Int))) then
 let v4 := (IntKind.u64.wrap (v3 * 2 ^ (min (17 : Int).toNat IntKind.u64.bits)))
 let v5 := (IntKind.u64.wrap (((BitVec.ofInt IntKind.u64.bits v3 ^^^ BitVec.ofInt IntKind.u64.bits v4).toNat : Int)))
 some (v5, (v5, ()))
 else none
 else none
 else none
def insSort_s7 {α : Type} (less : α → α → Option (Unit × (Bool × Unit))) (a0 : List α) (a1 : Int) (a2 : Int) (a6 : Int) (a7 : Int) : Option ((List α × (Int × (Int × (Int × (Int × Unit))))) ⊕ (List α × (Int × (Int × (Int × Unit))))) :=
 (Option.bind (show Option ((List α × (Int × (Int × (Int × (Int × Unit))))) ⊕ (List α × (Int × (Int × (Int × Unit))))) from
 bif (decide (a7 > a1)) then
 (Option.bind (lk a0 a7) fun _x9 =>
 (Option.bind (lk a0 a7) fun x10 =>
 (Option.bind (lk a0 (IntKind.i64.wrap (a7 - (1 : Int)))) fun _x11 =>
 (Option.bind (lk a0 (IntKind.i64.wrap (a7 - (1 : Int)))) fun x12 =>
 (Option.bind (less x10 x12) fun r13 =>
 bif r13.2.1 then
 some (.inl (a0, (a1, (a2, (a6, (a7, ()))))))
 else
 some (.inr (a0, (a1, (a2, (a6, ()))))))))))
 else
 some (.inr (a0, (a1, (a2, (a6, ())))))) fun y14 =>
 (match y14 with
 | .inl y14 =>
 (Option.bind (show Option (List α × (Int × (Int × (Int × (Int × Unit))))) from
 (Option.bind (lk y14.1 (IntKind.i64.wrap (y14.2.2.2.2.1 - (1 : Int)))) fun _x16 =>
 (Option.bind (lk y14.1 (IntKind.i64.wrap (y14.2.2.2.2.1 - (1 : Int)))) fun x17 =>
 (Option.bind (lk y14.1 y14.2.2.2.2.1) fun _x18 =>
 (Option.bind (lk y14.1 y14.2.2.2.2.1) fun x19 =>
 (Option.bind (lk y14.1 y14.2.2.2.2.1) fun _x20 =>
 (Option.bind (lk y14.1 y14.2.2.2.2.1) fun x21 =>
 (Option.bind (lk (y14.1.set y14.2.2.2.2.1.toNat x17) (IntKind.i64.wrap (y14.2.2.2.2.1 - (1 : Int)))) fun _x22 =>
 (Option.bind (lk (y14.1.set y14.2.2.2.2.1.toNat x17) (IntKind.i64.wrap (y14.2.2.2.2.1 - (1 : Int)))) fun x23 =>
 let l24 := ((y14.1.set y14.2.2.2.2.1.toNat x17).set (IntKind.i64.wrap (y14.2.2.2.2.1 - (1 : Int))).toNat x19)
 some (l24, (y14.2.1, (y14.2.2.1, (y14.2.2.2.1, (y14.2.2.2.2.1, ())))))))))))))) fun y25 =>
 some (.inl (y25.1, (y25.2.1, (y25.2.2.1, (y25.2.2.2.1, ((IntKind.i64.wrap (y25.2.2.2.2.1 - (1 : Int))), ())))))))
 | .inr y14 =>
 some (.inr (y14.1, (y14.2.1, (y14.2.2.1, (y14.2.2.2.1, ())))))))
def insSort_s2 {α : Type} (less : α → α → Option (Unit × (Bool × Unit))) (a0 : List α) (a1 : Int) (a2 : Int) (a6 : Int) : Option ((List α × (Int × (Int × (Int × Unit)))) ⊕ (List α × Unit)) :=
 (Option.bind (show Option ((List α × (Int × (Int × (Int × Unit)))) ⊕ (List α × Unit)) from
 bif (decide (a6 < a2)) then
 some (.inl (a0, (a1, (a2, (a6, ())))))
 else
 some (.inr (a0, ()))) fun y4 =>
 (match y4 with
 | .inl y4 =>
 (Option.bind (show Option (List α × (Int × (Int × (Int × Unit)))) from
 (Option.bind (iterN (fun x => insSort_s7 less x.1 x.2.1 x.2.2.1 x.2.2.2.1 x.2.2.2.2.1) fuelN (y4.1, (y4.2.1, (y4.2.2.1, (y4.2.2.2.1, (y4.2.2.2.1, ())))))) fun y26 =>
 some (y26.1, (y26.2.1, (y26.2.2.1, (y26.2.2.2.1, ())))))) fun y27 =>
 some (.inl (y27.1, (y27.2.1, (y27.2.2.1, ((IntKind.i64.wrap (y27.2.2.2.1 + (1 : Int))), ()))))))
 | .inr y4 =>
 some (.inr (y4.1, ()))))
def insSort {α : Type} (less : α → α → Option (Unit × (Bool × Unit))) (p0 : List α) (p1 : Int) (p2 : Int) : Option (List α × Unit) :=
 (Option.bind (iterN (fun x => insSort_s2 less x.1 x.2.1 x.2.2.1 x.2.2.2.1) fuelN (p0, (p1, (p2, ((IntKind.i64.wrap (p1 + (1 : Int))), ()))))) fun y28 =>
 some (y28.1, ()))
def siftDown_s2 {α : Type} (less : α → α → Option (Unit × (Bool × Unit))) (a0 : List α) (a2 : Int) (a3 : Int) (a8 : Int) : Option ((List α × (Int × (Int × (Int × Unit)))) ⊕ ((List α × Unit) ⊕ (List α × Unit))) :=
 let v3 := (IntKind.i64.wrap ((IntKind.i64.wrap ((2 : Int) * a8)) + (1 : Int)))
 (Option.bind (show Option ((List α × Unit) ⊕ (List α × (Int × (Int × (Int × (Int × Unit)))))) from
 bif (decide (v3 ≥ a2)) then
 some (.inl (a0, ()))
 else
 some (.inr (a0, (a2, (a3, (a8, (v3, ()))))))) fun y5 =>
 (match y5 with
 | .inl y5 =>
 some (.inr (.inl (y5.1, ())))
 | .inr y5 =>
 (Option.bind (show Option (List α × (Int × (Int × (Int × (Int × Unit))))) from
 (Option.bind (show Option (List α × (Int × (Int × (Int × (Int × (Bool × Unit)))))) from
 let v8 := (decide ((IntKind.i64.wrap (y5.2.2.2.2.1 + (1 : Int))) < y5.2.1))
 bif v8 then
 (Option.bind (lk y5.1 (IntKind.i64.wrap (y5.2.2.1 + y5.2.2.2.2.1))) fun _x9 =>
 (Option.bind (lk y5.1 (IntKind.i64.wrap (y5.2.2.1 + y5.2.2.2.2.1))) fun x10 =>
 let v11 := (IntKind.i64.wrap ((IntKind.i64.wrap (y5.2.2.1 + y5.2.2.2.2.1)) + (1 : Int)))
 (Option.bind (lk y5.1 v11) fun _x12 =>
 (Option.bind (lk y5.1 v11) fun x13 =>
 (Option.bind (less x10 x13) fun r14 =>
 some (y5.1, (y5.2.1, (y5.2.2.1, (y5.2.2.2.1, (y5.2.2.2.2.1, (r14.2.1, ())))))))))))
 else
 some (y5.1, (y5.2.1, (y5.2.2.1, (y5.2.2.2.1, (y5.2.2.2.2.1, (false, ()))))))) fun y15 =>
 bif y15.2.2.2.2.2.1 then
 some (y15.1, (y15.2.1, (y15.2.2.1, (y15.2.2.2.1, ((IntKind.i64.wrap (y15.2.2.2.2.1 + (1 : Int))), ())))))
 else
 some (y15.1, (y15.2.1, (y15.2.2.1, (y15.2.2.2.1, (y15.2.2.2.2.1, ()))))))) fun y16 =>
 (Option.bind (show Option ((List α × Unit) ⊕ (List α × (Int × (Int × (Int × (Int × Unit)))))) from
 (Option.bind (lk y16.1 (IntKind.i64.wrap (y16.2.2.1 + y16.2.2.2.1))) fun _x18 =>
 (Option.bind (lk y16.1 (IntKind.i64.wrap (y16.2.2.1 + y16.2.2.2.1))) fun x19 =>
 (Option.bind (lk y16.1 (IntKind.i64.wrap (y16.2.2.1 + y16.2.2.2.2.1))) fun _x20 =>
 (Option.bind (lk y16.1 (IntKind.i64.wrap (y16.2.2.1 + y16.2.2.2.2.1))) fun x21 =>
 (Option.bind (less x19 x21) fun r22 =>
 bif (!r22.2.1) then
 some (.inl (y16.1, ()))
 else
 some (.inr (y16.1, (y16.2.1, (y16.2.2.1, (y16.2.2.2.1, (y16.2.2.2.2.1, ())))))))))))) fun y23 =>
 (match y23 with
 | .inl y23 =>
 some (.inr (.inr (y23.1, ())))
 | .inr y23 =>
 (Option.bind (lk y23.1 (IntKind.i64.wrap (y23.2.2.1 + y23.2.2.2.2.1))) fun _x24 =>
 (Option.bind (lk y23.1 (IntKind.i64.wrap (y23.2.2.1 + y23.2.2.2.2.1))) fun x25 =>
 (Option.bind (lk y23.1 (IntKind.i64.wrap (y23.2.2.1 + y23.2.2.2.1))) fun _x26 =>
 (Option.bind (lk y23.1 (IntKind.i64.wrap (y23.2.2.1 + y23.2.2.2.1))) fun x27 =>
 (Option.bind (lk y23.1 (IntKind.i64.wrap (y23.2.2.1 + y23.2.2.2.1))) fun _x28 =>
 (Option.bind (lk y23.1 (IntKind.i64.wrap (y23.2.2.1 + y23.2.2.2.1))) fun x29 =>
 let l30 := (y23.1.set (IntKind.i64.wrap (y23.2.2.1 + y23.2.2.2.1)).toNat x25)
 (Option.bind (lk l30 (IntKind.i64.wrap (y23.2.2.1 + y23.2.2.2.2.1))) fun _x31 =>
 (Option.bind (lk l30 (IntKind.i64.wrap (y23.2.2.1 + y23.2.2.2.2.1))) fun x32 =>
 let l33 := (l30.set (IntKind.i64.wrap (y23.2.2.1 + y23.2.2.2.2.1)).toNat x27)
 some (.inl (l33, (y23.2.1, (y23.2.2.1, (y23.2.2.2.2.1, ()))))))))))))))))))
def siftDown {α : Type} (less : α → α → Option (Unit × (Bool × Unit))) (p0 : List α) (p1 : Int) (p2 : Int) (p3 : Int) : Option (List α × Unit) :=
 (Option.bind (iterN (fun x => siftDown_s2 less x.1 x.2.1 x.2.2.1 x.2.2.2.1) fuelN (p0, (p2, (p3, (p1, ()))))) fun y34 =>
 (match y34 with
 | .inl y34 =>
 some (y34.1, ())
 | .inr y34 =>
 some (y34.1, ())))
def heapSort_s4 {α : Type} (less : α → α → Option (Unit × (Bool × Unit))) (a0 : List α) (a6 : Int) (a7 : Int) (a8 : Int) (a9 : Int) : Option ((List α × (Int × (Int × (Int × (Int × Unit))))) ⊕ (List α × (Int × (Int × (Int × Unit))))) :=
 (Option.bind (show Option ((List α × (Int × (Int × (Int × (Int × Unit))))) ⊕ (List α × (Int × (Int × (Int × Unit))))) from
 bif (decide (a9 ≥ (0 : Int))) then
 some (.inl (a0, (a6, (a7, (a8, (a9, ()))))))
 else
 some (.inr (a0, (a6, (a7, (a8, ())))))) fun y6 =>
 (match y6 with
 | .inl y6 =>
 (Option.bind (show Option (List α × (Int × (Int × (Int × (Int × Unit))))) from
 (Option.bind (siftDown less y6.1 y6.2.2.2.2.1 y6.2.2.2.1 y6.2.1) fun r8 =>
 some (r8.1, (y6.2.1, (y6.2.2.1, (y6.2.2.2.1, (y6.2.2.2.2.1, ()))))))) fun y9 =>
 some (.inl (y9.1, (y9.2.1, (y9.2.2.1, (y9.2.2.2.1, ((IntKind.i64.wrap (y9.2.2.2.2.1 - (1 : Int))), ())))))))
 | .inr y6 =>
 some (.inr (y6.1, (y6.2.1, (y6.2.2.1, (y6.2.2.2.1, ())))))))
def heapSort_s13 {α : Type} (less : α → α → Option (Unit × (Bool × Unit))) (a0 : List α) (a6 : Int) (a7 : Int) (a10 : Int) : Option ((List α × (Int × (Int × (Int × Unit)))) ⊕ (List α × Unit)) :=
 (Option.bind (show Option ((List α × (Int × (Int × (Int × Unit)))) ⊕ (List α × Unit)) from
 bif (decide (a10 ≥ (0 : Int))) then
 some (.inl (a0, (a6, (a7, (a10, ())))))
 else
 some (.inr (a0, ()))) fun y15 =>
 (match y15 with
 | .inl y15 =>
 (Option.bind (show Option (List α × (Int × (Int × (Int × Unit)))) from
 (Option.bind (lk y15.1 (IntKind.i64.wrap (y15.2.1 + y15.2.2.2.1))) fun _x17 =>
 (Option.bind (lk y15.1 (IntKind.i64.wrap (y15.2.1 + y15.2.2.2.1))) fun x18 =>
 (Option.bind (lk y15.1 y15.2.1) fun _x19 =>
 (Option.bind (lk y15.1 y15.2.1) fun x20 =>
 (Option.bind (lk y15.1 y15.2.1) fun _x21 =>
 (Option.bind (lk y15.1 y15.2.1) fun x22 =>
 (Option.bind (lk (y15.1.set y15.2.1.toNat x18) (IntKind.i64.wrap (y15.2.1 + y15.2.2.2.1))) fun _x23 =>
 (Option.bind (lk (y15.1.set y15.2.1.toNat x18) (IntKind.i64.wrap (y15.2.1 + y15.2.2.2.1))) fun x24 =>
 let l25 := ((y15.1.set y15.2.1.toNat x18).set (IntKind.i64.wrap (y15.2.1 + y15.2.2.2.1)).toNat x20)
 (Option.bind (siftDown less l25 y15.2.2.1 y15.2.2.2.1 y15.2.1) fun r26 =>
 some (r26.1, (y15.2.1, (y15.2.2.1, (y15.2.2.2.1, ())))))))))))))) fun y27 =>
 some (.inl (y27.1, (y27.2.1, (y27.2.2.1, ((IntKind.i64.wrap (y27.2.2.2.1 - (1 : Int))), ()))))))
 | .inr y15 =>
 some (.inr (y15.1, ()))))
def heapSort {α : Type} (less : α → α → Option (Unit × (Bool × Unit))) (p0 : List α) (p1 : Int) (p2 : Int) : Option (List α × Unit) :=
 (Option.bind (show Option (List α × (Int × (Int × (Int × Unit)))) from
 let v2 := (IntKind.i64.wrap ((IntKind.i64.wrap (p2 - p1)) - (1 : Int)))
 bif ((2 : Int) != 0) then
 (Option.bind (iterN (fun x => heapSort_s4 less x.1 x.2.1 x.2.2.1 x.2.2.2.1 x.2.2.2.2.1) fuelN (p0, (p1, ((0 : Int), ((IntKind.i64.wrap (p2 - p1)), ((IntKind.i64.wrap (Int.tdiv v2 (2 : Int))), ())))))) fun y10 =>
 some (y10.1, (y10.2.1, (y10.2.2.1, (y10.2.2.2.1, ())))))
 else none) fun y11 =>
 (Option.bind (iterN (fun x => heapSort_s13 less x.1 x.2.1 x.2.2.1 x.2.2.2.1) fuelN (y11.1, (y11.2.1, (y11.2.2.1, ((IntKind.i64.wrap (y11.2.2.2.1 - (1 : Int))), ()))))) fun y28 =>
 some (y28.1, ())))
def breakPat_s5 {α : Type} (a0 : List α) (a1 : Int) (a6 : Int) (a7 : Int) (a8 : Int) (a9 : Int) : Option ((List α × (Int × (Int × (Int × (Int × (Int × Unit)))))) ⊕ (List α × Unit)) :=
 (Option.bind (show Option ((List α × (Int × (Int × (Int × (Int × (Int × Unit)))))) ⊕ (List α × Unit)) from
 bif ((4 : Int) != 0) then
 let v7 := (IntKind.i64.wrap ((IntKind.i64.wrap (Int.tdiv a6 (4 : Int))) * (2 : Int)))
 let v8 := (IntKind.i64.wrap ((IntKind.i64.wrap (a1 + v7)) + (1 : Int)))
 bif (decide (a9 ≤ v8)) then
 some (.inl (a0, (a1, (a6, (a7, (a8, (a9, ())))))))
 else
 some (.inr (a0, ()))
 else none) fun y9 =>
 (match y9 with
 | .inl y9 =>
 (Option.bind (show Option (List α × (Int × (Int × (Int × (Int × (Int × Unit)))))) from
 (Option.bind (xorNext y9.2.2.2.1) fun r11 =>
 let v12 := (IntKind.u64.wrap (((BitVec.ofInt IntKind.u64.bits r11.2.1 &&& BitVec.ofInt IntKind.u64.bits (IntKind.u64.wrap (y9.2.2.2.2.1 - (1 : Int)))).toNat : Int)))
 (Option.bind (show Option (List α × (Int × (Int × (Int × (Int × (Int × (Int × Unit))))))) from
 bif (decide ((IntKind.i64.wrap (v12)) ≥ y9.2.2.1)) then
 some (y9.1, (y9.2.1, (y9.2.2.1, (r11.1, (y9.2.2.2.2.1, (y9.2.2.2.2.2.1, ((IntKind.i64.wrap ((IntKind.i64.wrap (v12)) - y9.2.2.1)), ())))))))
 else
 some (y9.1, (y9.2.1, (y9.2.2.1, (r11.1, (y9.2.2.2.2.1, (y9.2.2.2.2.2.1, ((IntKind.i64.wrap (v12)), ())))))))) fun y14 =>
 (Option.bind (lk y14.1 (IntKind.i64.wrap (y14.2.1 + y14.2.2.2.2.2.2.1))) fun _x15 =>
 (Option.bind (lk y14.1 (IntKind.i64.wrap (y14.2.1 + y14.2.2.2.2.2.2.1))) fun x16 =>
 (Option.bind (lk y14.1 y14.2.2.2.2.2.1) fun _x17 =>
 (Option.bind (lk y14.1 y14.2.2.2.2.2.1) fun x18 =>
 (Option.bind (lk y14.1 y14.2.2.2.2.2.1) fun _x19 =>
 (Option.bind (lk y14.1 y14.2.2.2.2.2.1) fun x20 =>
 (Option.bind (lk (y14.1.set y14.2.2.2.2.2.1.toNat x16) (IntKind.i64.wrap (y14.2.1 + y14.2.2.2.2.2.2.1))) fun _x21 =>
 (Option.bind (lk (y14.1.set y14.2.2.2.2.2.1.toNat x16) (IntKind.i64.wrap (y14.2.1 + y14.2.2.2.2.2.2.1))) fun x22 =>
 let l23 := ((y14.1.set y14.2.2.2.2.2.1.toNat x16).set (IntKind.i64.wrap (y14.2.1 + y14.2.2.2.2.2.2.1)).toNat x18)
 some (l23, (y14.2.1, (y14.2.2.1, (y14.2.2.2.1, (y14.2.2.2.2.1, (y14.2.2.2.2.2.1, ()))))))))))))))))) fun y24 =>
 some (.inl (y24.1, (y24.2.1, (y24.2.2.1, (y24.2.2.2.1, (y24.2.2.2.2.1, ((IntKind.i64.wrap (y24.2.2.2.2.2.1 + (1 : Int))), ()))))))))
 | .inr y9 =>
 some (.inr (y9.1, ()))))
def breakPat {α : Type} (p0 : List α) (p1 : Int) (p2 : Int) : Option (List α × Unit) :=
 bif (decide ((IntKind.i64.wrap (p2 - p1)) ≥ (8 : Int))) then
 (Option.bind (nextPow (IntKind.i64.wrap (p2 - p1))) fun r1 =>
 bif ((4 : Int) != 0) then
 let v2 := (IntKind.i64.wrap (Int.tdiv (IntKind.i64.wrap (p2 - p1)) (4 : Int)))
 let v3 := (IntKind.i64.wrap (p1 + (IntKind.i64.wrap (v2 * (2 : Int)))))
 (Option.bind (iterN (fun x => breakPat_s5 x.1 x.2.1 x.2.2.1 x.2.2.2.1 x.2.2.2.2.1 x.2.2.2.2.2.1) fuelN (p0, (p1, ((IntKind.i64.wrap (p2 - p1)), ((IntKind.u64.wrap ((IntKind.i64.wrap (p2 - p1)))), (r1.2.1, ((IntKind.i64.wrap (v3 - (1 : Int))), ()))))))) fun y25 =>
 some (y25.1, ()))
 else none)
 else
 some (p0, ())
def order2 {α : Type} (less : α → α → Option (Unit × (Bool × Unit))) (p0 : List α) (p1 : Int) (p2 : Int) (p3 : Int) : Option (Int × (Int × (Int × Unit))) :=
 (Option.bind (show Option ((Int × (Int × (Int × Unit))) ⊕ (Int × (Int × (Int × Unit)))) from
 (Option.bind (lk p0 p2) fun x2 =>
 (Option.bind (lk p0 p1) fun x3 =>
 (Option.bind (less x2 x3) fun r4 =>
 bif r4.2.1 then
 some (.inl ((IntKind.i64.wrap (p3 + (1 : Int))), (p2, (p1, ()))))
 else
 some (.inr (p1, (p2, (p3, ())))))))) fun y5 =>
 (match y5 with
 | .inl y5 =>
 some (y5.1, (y5.2.1, (y5.2.2.1, ())))
 | .inr y5 =>
 some (y5.2.2.1, (y5.1, (y5.2.1, ())))))
def median {α : Type} (less : α → α → Option (Unit × (Bool × Unit))) (p0 : List α) (p1 : Int) (p2 : Int) (p3 : Int) (p4 : Int) : Option (Int × (Int × Unit)) :=
 (Option.bind (order2 less p0 p1 p2 p4) fun r1 =>
 (Option.bind (order2 less p0 r1.2.2.1 p3 r1.1) fun r2 =>
 (Option.bind (order2 less p0 r1.2.1 r2.2.1 r2.1) fun r3 =>
 some (r3.1, (r3.2.2.1, ())))))
def medianAdj {α : Type} (less : α → α → Option (Unit × (Bool × Unit))) (p0 : List α) (p1 : Int) (p2 : Int) : Option (Int × (Int × Unit)) :=
 (Option.bind (median less p0 (IntKind.i64.wrap (p1 - (1 : Int))) p1 (IntKind.i64.wrap (p1 + (1 : Int))) p2) fun r1 =>
 some (r1.1, (r1.2.1, ())))
def choosePiv {α : Type} (less : α → α → Option (Unit × (Bool × Unit))) (p0 : List α) (p1 : Int) (p2 : Int) : Option (Unit × (Int × (Int × Unit))) :=
 bif ((4 : Int) != 0) then
 let v1 := (IntKind.i64.wrap (Int.tdiv (IntKind.i64.wrap (p2 - p1)) (4 : Int)))
 let v2 := (IntKind.i64.wrap (p1 + (IntKind.i64.wrap (v1 * (1 : Int)))))
 bif ((4 : Int) != 0) then
 let v3 := (IntKind.i64.wrap (Int.tdiv (IntKind.i64.wrap (p2 - p1)) (4 : Int)))
 let v4 := (IntKind.i64.wrap (p1 + (IntKind.i64.wrap (v3 * (2 : Int)))))
 bif ((4 : Int) != 0) then
 let v5 := (IntKind.i64.wrap (Int.tdiv (IntKind.i64.wrap (p2 - p1)) (4 : Int)))
 let v6 := (IntKind.i64.wrap (p1 + (IntKind.i64.wrap (v5 * (3 : Int)))))
 (Option.bind (show Option (Int × (Int × Unit)) from
 bif (decide ((IntKind.i64.wrap (p2 - p1)) ≥ (8 : Int))) then
 (Option.bind (show Option (List α × (Int × (Int × (Int × (Int × Unit))))) from
 bif (decide ((IntKind.i64.wrap (p2 - p1)) ≥ (50 : Int))) then
 (Option.bind (medianAdj less p0 v2 (0 : Int)) fun r9 =>
 (Option.bind (medianAdj less p0 v4 r9.1) fun r10 =>
 (Option.bind (medianAdj less p0 v6 r10.1) fun r11 =>
 some (p0, (r11.1, (r9.2.1, (r10.2.1, (r11.2.1, ()))))))))
 else
 some (p0, ((0 : Int), (v2, (v4, (v6, ())))))) fun y12 =>
 (Option.bind (median less y12.1 y12.2.2.1 y12.2.2.2.1 y12.2.2.2.2.1 y12.2.1) fun r13 =>
 some (r13.1, (r13.2.1, ()))))
 else
 some ((0 : Int), (v4, ()))) fun y14 =>
 bif (y14.1 == (0 : Int)) then
 some ((), (y14.2.1, ((1 : Int), ())))
 else
 bif (y14.1 == (12 : Int)) then
 some ((), (y14.2.1, ((2 : Int), ())))
 else
 some ((), (y14.2.1, ((0 : Int), ()))))
 else none
 else none
 else none
def revRange_s2 {α : Type} (a0 : List α) (a6 : Int) (a7 : Int) : Option ((List α × (Int × (Int × Unit))) ⊕ (List α × Unit)) :=
 (Option.bind (show Option ((List α × (Int × (Int × Unit))) ⊕ (List α × Unit)) from
 bif (decide (a6 < a7)) then
 some (.inl (a0, (a6, (a7, ()))))
 else
 some (.inr (a0, ()))) fun y4 =>
 (match y4 with
 | .inl y4 =>
 (Option.bind (lk y4.1 y4.2.2.1) fun _x5 =>
 (Option.bind (lk y4.1 y4.2.2.1) fun x6 =>
 (Option.bind (lk y4.1 y4.2.1) fun _x7 =>
 (Option.bind (lk y4.1 y4.2.1) fun x8 =>
 (Option.bind (lk y4.1 y4.2.1) fun _x9 =>
 (Option.bind (lk y4.1 y4.2.1) fun x10 =>
 (Option.bind (lk (y4.1.set y4.2.1.toNat x6) y4.2.2.1) fun _x11 =>
 (Option.bind (lk (y4.1.set y4.2.1.toNat x6) y4.2.2.1) fun x12 =>
 some (.inl (((y4.1.set y4.2.1.toNat x6).set y4.2.2.1.toNat x8), ((IntKind.i64.wrap (y4.2.1 + (1 : Int))), ((IntKind.i64.wrap (y4.2.2.1 - (1 : Int))), ()))))))))))))
 | .inr y4 =>
 some (.inr (y4.1, ()))))
def revRange {α : Type} (p0 : List α) (p1 : Int) (p2 : Int) : Option (List α × Unit) :=
 (Option.bind (iterN (fun x => revRange_s2 x.1 x.2.1 x.2.2.1) fuelN (p0, (p1, ((IntKind.i64.wrap (p2 - (1 : Int))), ())))) fun y13 =>
 some (y13.1, ()))
def partIns_s8 {α : Type} (less : α → α → Option (Unit × (Bool × Unit))) (a0 : List α) (a1 : Int) (a2 : Int) (a7 : Int) (a8 : Int) : Option ((List α × (Int × (Int × (Int × (Int × Unit))))) ⊕ (List α × (Int × (Int × (Int × (Int × Unit)))))) :=
 (Option.bind (show Option ((List α × (Int × (Int × (Int × (Int × Unit))))) ⊕ (List α × (Int × (Int × (Int × (Int × Unit)))))) from
 bif (decide (a7 < a2)) then
 (Option.bind (lk a0 a7) fun _x10 =>
 (Option.bind (lk a0 a7) fun x11 =>
 (Option.bind (lk a0 (IntKind.i64.wrap (a7 - (1 : Int)))) fun _x12 =>
 (Option.bind (lk a0 (IntKind.i64.wrap (a7 - (1 : Int)))) fun x13 =>
 (Option.bind (less x11 x13) fun r14 =>
 bif (!r14.2.1) then
 some (.inl (a0, (a1, (a2, (a7, (a8, ()))))))
 else
 some (.inr (a0, (a1, (a2, (a7, (a8, ())))))))))))
 else
 some (.inr (a0, (a1, (a2, (a7, (a8, ()))))))) fun y15 =>
 (match y15 with
 | .inl y15 =>
 some (.inl (y15.1, (y15.2.1, (y15.2.2.1, ((IntKind.i64.wrap (y15.2.2.2.1 + (1 : Int))), (y15.2.2.2.2.1, ()))))))
 | .inr y15 =>
 some (.inr (y15.1, (y15.2.1, (y15.2.2.1, (y15.2.2.2.1, (y15.2.2.2.2.1, ()))))))))
def partIns_s35 {α : Type} (less : α → α → Option (Unit × (Bool × Unit))) (a0 : List α) (a1 : Int) (a2 : Int) (a7 : Int) (a8 : Int) (a9 : Int) : Option ((List α × (Int × (Int × (Int × (Int × (Int × Unit)))))) ⊕ (List α × (Int × (Int × (Int × (Int × Unit)))))) :=
 (Option.bind (show Option ((List α × (Int × (Int × (Int × (Int × (Int × Unit)))))) ⊕ (List α × (Int × (Int × (Int × (Int × Unit)))))) from
 bif (decide (a9 ≥ (1 : Int))) then
 some (.inl (a0, (a1, (a2, (a7, (a8, (a9, ())))))))
 else
 some (.inr (a0, (a1, (a2, (a7, (a8, ()))))))) fun y37 =>
 (match y37 with
 | .inl y37 =>
 (Option.bind (show Option ((List α × (Int × (Int × (Int × (Int × Unit))))) ⊕ (List α × (Int × (Int × (Int × (Int × (Int × Unit))))))) from
 (Option.bind (show Option ((List α × (Int × (Int × (Int × (Int × Unit))))) ⊕ (List α × (Int × (Int × (Int × (Int × (Int × Unit))))))) from
 (Option.bind (lk y37.1 y37.2.2.2.2.2.1) fun _x40 =>
 (Option.bind (lk y37.1 y37.2.2.2.2.2.1) fun x41 =>
 (Option.bind (lk y37.1 (IntKind.i64.wrap (y37.2.2.2.2.2.1 - (1 : Int)))) fun _x42 =>
 (Option.bind (lk y37.1 (IntKind.i64.wrap (y37.2.2.2.2.2.1 - (1 : Int)))) fun x43 =>
 (Option.bind (less x41 x43) fun r44 =>
 bif (!r44.2.1) then
 some (.inl (y37.1, (y37.2.1, (y37.2.2.1, (y37.2.2.2.1, (y37.2.2.2.2.1, ()))))))
 else
 some (.inr (y37.1, (y37.2.1, (y37.2.2.1, (y37.2.2.2.1, (y37.2.2.2.2.1, (y37.2.2.2.2.2.1, ()))))))))))))) fun y45 =>
 (match y45 with
 | .inl y45 =>
 some (.inl (y45.1, (y45.2.1, (y45.2.2.1, (y45.2.2.2.1, (y45.2.2.2.2.1, ()))))))
 | .inr y45 =>
 (Option.bind (lk y45.1 (IntKind.i64.wrap (y45.2.2.2.2.2.1 - (1 : Int)))) fun _x46 =>
 (Option.bind (lk y45.1 (IntKind.i64.wrap (y45.2.2.2.2.2.1 - (1 : Int)))) fun x47 =>
 (Option.bind (lk y45.1 y45.2.2.2.2.2.1) fun _x48 =>
 (Option.bind (lk y45.1 y45.2.2.2.2.2.1) fun x49 =>
 (Option.bind (lk y45.1 y45.2.2.2.2.2.1) fun _x50 =>
 (Option.bind (lk y45.1 y45.2.2.2.2.2.1) fun x51 =>
 (Option.bind (lk (y45.1.set y45.2.2.2.2.2.1.toNat x47) (IntKind.i64.wrap (y45.2.2.2.2.2.1 - (1 : Int)))) fun _x52 =>
 (Option.bind (lk (y45.1.set y45.2.2.2.2.2.1.toNat x47) (IntKind.i64.wrap (y45.2.2.2.2.2.1 - (1 : Int)))) fun x53 =>
 let l54 := ((y45.1.set y45.2.2.2.2.2.1.toNat x47).set (IntKind.i64.wrap (y45.2.2.2.2.2.1 - (1 : Int))).toNat x49)
 some (.inr (l54, (y45.2.1, (y45.2.2.1, (y45.2.2.2.1, (y45.2.2.2.2.1, (y45.2.2.2.2.2.1, ())))))))))))))))))) fun y55 =>
 (match y55 with
 | .inl y55 =>
 some (.inr (y55.1, (y55.2.1, (y55.2.2.1, (y55.2.2.2.1, (y55.2.2.2.2.1, ()))))))
 | .inr y55 =>
 some (.inl (y55.1, (y55.2.1, (y55.2.2.1, (y55.2.2.2.1, (y55.2.2.2.2.1, ((IntKind.i64.wrap (y55.2.2.2.2.2.1 - (1 : Int))), ())))))))))
 | .inr y37 =>
 some (.inr (y37.1, (y37.2.1, (y37.2.2.1, (y37.2.2.2.1, (y37.2.2.2.2.1, ()))))))))
def partIns_s60 {α : Type} (less : α → α → Option (Unit × (Bool × Unit))) (a0 : List α) (a1 : Int) (a2 : Int) (a7 : Int) (a8 : Int) (a10 : Int) : Option ((List α × (Int × (Int × (Int × (Int × (Int × Unit)))))) ⊕ (List α × (Int × (Int × (Int × (Int × Unit)))))) :=
 (Option.bind (show Option ((List α × (Int × (Int × (Int × (Int × (Int × Unit)))))) ⊕ (List α × (Int × (Int × (Int × (Int × Unit)))))) from
 bif (decide (a10 < a2)) then
 some (.inl (a0, (a1, (a2, (a7, (a8, (a10, ())))))))
 else
 some (.inr (a0, (a1, (a2, (a7, (a8, ()))))))) fun y62 =>
 (match y62 with
 | .inl y62 =>
 (Option.bind (show Option ((List α × (Int × (Int × (Int × (Int × Unit))))) ⊕ (List α × (Int × (Int × (Int × (Int × (Int × Unit))))))) from
 (Option.bind (show Option ((List α × (Int × (Int × (Int × (Int × Unit))))) ⊕ (List α × (Int × (Int × (Int × (Int × (Int × Unit))))))) from
 (Option.bind (lk y62.1 y62.2.2.2.2.2.1) fun _x65 =>
 (Option.bind (lk y62.1 y62.2.2.2.2.2.1) fun x66 =>
 (Option.bind (lk y62.1 (IntKind.i64.wrap (y62.2.2.2.2.2.1 - (1 : Int)))) fun _x67 =>
 (Option.bind (lk y62.1 (IntKind.i64.wrap (y62.2.2.2.2.2.1 - (1 : Int)))) fun x68 =>
 (Option.bind (less x66 x68) fun r69 =>
 bif (!r69.2.1) then
 some (.inl (y62.1, (y62.2.1, (y62.2.2.1, (y62.2.2.2.1, (y62.2.2.2.2.1, ()))))))
 else
 some (.inr (y62.1, (y62.2.1, (y62.2.2.1, (y62.2.2.2.1, (y62.2.2.2.2.1, (y62.2.2.2.2.2.1, ()))))))))))))) fun y70 =>
 (match y70 with
 | .inl y70 =>
 some (.inl (y70.1, (y70.2.1, (y70.2.2.1, (y70.2.2.2.1, (y70.2.2.2.2.1, ()))))))
 | .inr y70 =>
 (Option.bind (lk y70.1 (IntKind.i64.wrap (y70.2.2.2.2.2.1 - (1 : Int)))) fun _x71 =>
 (Option.bind (lk y70.1 (IntKind.i64.wrap (y70.2.2.2.2.2.1 - (1 : Int)))) fun x72 =>
 (Option.bind (lk y70.1 y70.2.2.2.2.2.1) fun _x73 =>
 (Option.bind (lk y70.1 y70.2.2.2.2.2.1) fun x74 =>
 (Option.bind (lk y70.1 y70.2.2.2.2.2.1) fun _x75 =>
 (Option.bind (lk y70.1 y70.2.2.2.2.2.1) fun x76 =>
 (Option.bind (lk (y70.1.set y70.2.2.2.2.2.1.toNat x72) (IntKind.i64.wrap (y70.2.2.2.2.2.1 - (1 : Int)))) fun _x77 =>
 (Option.bind (lk (y70.1.set y70.2.2.2.2.2.1.toNat x72) (IntKind.i64.wrap (y70.2.2.2.2.2.1 - (1 : Int)))) fun x78 =>
 let l79 := ((y70.1.set y70.2.2.2.2.2.1.toNat x72).set (IntKind.i64.wrap (y70.2.2.2.2.2.1 - (1 : Int))).toNat x74)
 some (.inr (l79, (y70.2.1, (y70.2.2.1, (y70.2.2.2.1, (y70.2.2.2.2.1, (y70.2.2.2.2.2.1, ())))))))))))))))))) fun y80 =>
 (match y80 with
 | .inl y80 =>
 some (.inr (y80.1, (y80.2.1, (y80.2.2.1, (y80.2.2.2.1, (y80.2.2.2.2.1, ()))))))
 | .inr y80 =>
 some (.inl (y80.1, (y80.2.1, (y80.2.2.1, (y80.2.2.2.1, (y80.2.2.2.2.1, ((IntKind.i64.wrap (y80.2.2.2.2.2.1 + (1 : Int))), ())))))))))
 | .inr y62 =>
 some (.inr (y62.1, (y62.2.1, (y62.2.2.1, (y62.2.2.2.1, (y62.2.2.2.2.1, ()))))))))
def partIns_s2 {α : Type} (less : α → α → Option (Unit × (Bool × Unit))) (a0 : List α) (a1 : Int) (a2 : Int) (a7 : Int) (a8 : Int) : Option ((List α × (Int × (Int × (Int × (Int × Unit))))) ⊕ ((List α × (Bool × Unit)) ⊕ (List α × Unit))) :=
 (Option.bind (show Option ((List α × (Int × (Int × (Int × (Int × Unit))))) ⊕ (List α × Unit)) from
 bif (decide (a8 < (5 : Int))) then
 some (.inl (a0, (a1, (a2, (a7, (a8, ()))))))
 else
 some (.inr (a0, ()))) fun y4 =>
 (match y4 with
 | .inl y4 =>
 (Option.bind (show Option ((List α × (Bool × Unit)) ⊕ (List α × (Int × (Int × (Int × (Int × Unit)))))) from
 (Option.bind (show Option (List α × (Int × (Int × (Int × (Int × Unit))))) from
 (Option.bind (iterN (fun x => partIns_s8 less x.1 x.2.1 x.2.2.1 x.2.2.2.1 x.2.2.2.2.1) fuelN (y4.1, (y4.2.1, (y4.2.2.1, (y4.2.2.2.1, (y4.2.2.2.2.1, ())))))) fun y16 =>
 some (y16.1, (y16.2.1, (y16.2.2.1, (y16.2.2.2.1, (y16.2.2.2.2.1, ()))))))) fun y17 =>
 (Option.bind (show Option ((List α × (Bool × Unit)) ⊕ (List α × (Int × (Int × (Int × (Int × Unit)))))) from
 bif (y17.2.2.2.1 == y17.2.2.1) then
 some (.inl (y17.1, (true, ())))
 else
 some (.inr (y17.1, (y17.2.1, (y17.2.2.1, (y17.2.2.2.1, (y17.2.2.2.2.1, ()))))))) fun y19 =>
 (match y19 with
 | .inl y19 =>
 some (.inl (y19.1, (y19.2.1, ())))
 | .inr y19 =>
 (Option.bind (show Option ((List α × (Bool × Unit)) ⊕ (List α × (Int × (Int × (Int × (Int × Unit)))))) from
 let v21 := (decide ((IntKind.i64.wrap (y19.2.2.1 - y19.2.1)) < (50 : Int)))
 bif v21 then
 some (.inl (y19.1, (false, ())))
 else
 some (.inr (y19.1, (y19.2.1, (y19.2.2.1, (y19.2.2.2.1, (y19.2.2.2.2.1, ()))))))) fun y22 =>
 (match y22 with
 | .inl y22 =>
 some (.inl (y22.1, (y22.2.1, ())))
 | .inr y22 =>
 (Option.bind (lk y22.1 (IntKind.i64.wrap (y22.2.2.2.1 - (1 : Int)))) fun _x23 =>
 (Option.bind (lk y22.1 (IntKind.i64.wrap (y22.2.2.2.1 - (1 : Int)))) fun x24 =>
 (Option.bind (lk y22.1 y22.2.2.2.1) fun _x25 =>
 (Option.bind (lk y22.1 y22.2.2.2.1) fun x26 =>
 (Option.bind (lk y22.1 y22.2.2.2.1) fun _x27 =>
 (Option.bind (lk y22.1 y22.2.2.2.1) fun x28 =>
 (Option.bind (lk (y22.1.set y22.2.2.2.1.toNat x24) (IntKind.i64.wrap (y22.2.2.2.1 - (1 : Int)))) fun _x29 =>
 (Option.bind (lk (y22.1.set y22.2.2.2.1.toNat x24) (IntKind.i64.wrap (y22.2.2.2.1 - (1 : Int)))) fun x30 =>
 let l31 := ((y22.1.set y22.2.2.2.1.toNat x24).set (IntKind.i64.wrap (y22.2.2.2.1 - (1 : Int))).toNat x26)
 (Option.bind (show Option (List α × (Int × (Int × (Int × (Int × Unit))))) from
 let v33 := (decide ((IntKind.i64.wrap (y22.2.2.2.1 - y22.2.1)) ≥ (2 : Int)))
 bif v33 then
 (Option.bind (iterN (fun x => partIns_s35 less x.1 x.2.1 x.2.2.1 x.2.2.2.1 x.2.2.2.2.1 x.2.2.2.2.2.1) fuelN (l31, (y22.2.1, (y22.2.2.1, (y22.2.2.2.1, (y22.2.2.2.2.1, ((IntKind.i64.wrap (y22.2.2.2.1 - (1 : Int))), ()))))))) fun y56 =>
 some (y56.1, (y56.2.1, (y56.2.2.1, (y56.2.2.2.1, (y56.2.2.2.2.1, ()))))))
 else
 some (l31, (y22.2.1, (y22.2.2.1, (y22.2.2.2.1, (y22.2.2.2.2.1, ())))))) fun y57 =>
 let v58 := (decide ((IntKind.i64.wrap (y57.2.2.1 - y57.2.2.2.1)) ≥ (2 : Int)))
 bif v58 then
 (Option.bind (iterN (fun x => partIns_s60 less x.1 x.2.1 x.2.2.1 x.2.2.2.1 x.2.2.2.2.1 x.2.2.2.2.2.1) fuelN (y57.1, (y57.2.1, (y57.2.2.1, (y57.2.2.2.1, (y57.2.2.2.2.1, ((IntKind.i64.wrap (y57.2.2.2.1 + (1 : Int))), ()))))))) fun y81 =>
 some (.inr (y81.1, (y81.2.1, (y81.2.2.1, (y81.2.2.2.1, (y81.2.2.2.2.1, ())))))))
 else
 some (.inr (y57.1, (y57.2.1, (y57.2.2.1, (y57.2.2.2.1, (y57.2.2.2.2.1, ()))))))))))))))))))))) fun y82 =>
 (match y82 with
 | .inl y82 =>
 some (.inr (.inl (y82.1, (y82.2.1, ()))))
 | .inr y82 =>
 some (.inl (y82.1, (y82.2.1, (y82.2.2.1, (y82.2.2.2.1, ((IntKind.i64.wrap (y82.2.2.2.2.1 + (1 : Int))), ()))))))))
 | .inr y4 =>
 some (.inr (.inr (y4.1, ())))))
def partIns {α : Type} (less : α → α → Option (Unit × (Bool × Unit))) (p0 : List α) (p1 : Int) (p2 : Int) : Option (List α × (Bool × Unit)) :=
 (Option.bind (iterN (fun x => partIns_s2 less x.1 x.2.1 x.2.2.1 x.2.2.2.1 x.2.2.2.2.1) fuelN (p0, (p1, (p2, ((IntKind.i64.wrap (p1 + (1 : Int))), ((0 : Int), ())))))) fun y83 =>
 (match y83 with
 | .inl y83 =>
 some (y83.1, (y83.2.1, ()))
 | .inr y83 =>
 some (y83.1, (false, ()))))
def partEq_s13 {α : Type} (less : α → α → Option (Unit × (Bool × Unit))) (a0 : List α) (a1 : Int) (a9 : Int) (a10 : Int) : Option ((List α × (Int × (Int × (Int × Unit)))) ⊕ (List α × (Int × (Int × (Int × Unit))))) :=
 (Option.bind (show Option ((List α × (Int × (Int × (Int × Unit)))) ⊕ (List α × (Int × (Int × (Int × Unit))))) from
 bif (decide (a9 ≤ a10)) then
 (Option.bind (lk a0 a1) fun _x15 =>
 (Option.bind (lk a0 a1) fun x16 =>
 (Option.bind (lk a0 a9) fun _x17 =>
 (Option.bind (lk a0 a9) fun x18 =>
 (Option.bind (less x16 x18) fun r19 =>
 bif (!r19.2.1) then
 some (.inl (a0, (a1, (a9, (a10, ())))))
 else
 some (.inr (a0, (a1, (a9, (a10, ()))))))))))
 else
 some (.inr (a0, (a1, (a9, (a10, ())))))) fun y20 =>
 (match y20 with
 | .inl y20 =>
 some (.inl (y20.1, (y20.2.1, ((IntKind.i64.wrap (y20.2.2.1 + (1 : Int))), (y20.2.2.2.1, ())))))
 | .inr y20 =>
 some (.inr (y20.1, (y20.2.1, (y20.2.2.1, (y20.2.2.2.1, ())))))))
def partEq_s25 {α : Type} (less : α → α → Option (Unit × (Bool × Unit))) (a0 : List α) (a1 : Int) (a9 : Int) (a10 : Int) : Option ((List α × (Int × (Int × (Int × Unit)))) ⊕ (List α × (Int × (Int × (Int × Unit))))) :=
 (Option.bind (show Option ((List α × (Int × (Int × (Int × Unit)))) ⊕ (List α × (Int × (Int × (Int × Unit))))) from
 bif (decide (a9 ≤ a10)) then
 (Option.bind (lk a0 a1) fun _x27 =>
 (Option.bind (lk a0 a1) fun x28 =>
 (Option.bind (lk a0 a10) fun _x29 =>
 (Option.bind (lk a0 a10) fun x30 =>
 (Option.bind (less x28 x30) fun r31 =>
 bif r31.2.1 then
 some (.inl (a0, (a1, (a9, (a10, ())))))
 else
 some (.inr (a0, (a1, (a9, (a10, ()))))))))))
 else
 some (.inr (a0, (a1, (a9, (a10, ())))))) fun y32 =>
 (match y32 with
 | .inl y32 =>
 some (.inl (y32.1, (y32.2.1, (y32.2.2.1, ((IntKind.i64.wrap (y32.2.2.2.1 - (1 : Int))), ())))))
 | .inr y32 =>
 some (.inr (y32.1, (y32.2.1, (y32.2.2.1, (y32.2.2.2.1, ())))))))
def partEq_s10 {α : Type} (less : α → α → Option (Unit × (Bool × Unit))) (a0 : List α) (a1 : Int) (a9 : Int) (a10 : Int) : Option ((List α × (Int × (Int × (Int × Unit)))) ⊕ (List α × (Int × Unit))) :=
 (Option.bind (show Option (List α × (Int × (Int × (Int × Unit)))) from
 (Option.bind (iterN (fun x => partEq_s13 less x.1 x.2.1 x.2.2.1 x.2.2.2.1) fuelN (a0, (a1, (a9, (a10, ()))))) fun y21 =>
 some (y21.1, (y21.2.1, (y21.2.2.1, (y21.2.2.2.1, ())))))) fun y22 =>
 (Option.bind (show Option (List α × (Int × (Int × (Int × Unit)))) from
 (Option.bind (iterN (fun x => partEq_s25 less x.1 x.2.1 x.2.2.1 x.2.2.2.1) fuelN (y22.1, (y22.2.1, (y22.2.2.1, (y22.2.2.2.1, ()))))) fun y33 =>
 some (y33.1, (y33.2.1, (y33.2.2.1, (y33.2.2.2.1, ())))))) fun y34 =>
 (Option.bind (show Option ((List α × (Int × Unit)) ⊕ (List α × (Int × (Int × (Int × Unit))))) from
 bif (decide (y34.2.2.1 > y34.2.2.2.1)) then
 some (.inl (y34.1, (y34.2.2.1, ())))
 else
 some (.inr (y34.1, (y34.2.1, (y34.2.2.1, (y34.2.2.2.1, ())))))) fun y36 =>
 (match y36 with
 | .inl y36 =>
 some (.inr (y36.1, (y36.2.1, ())))
 | .inr y36 =>
 (Option.bind (lk y36.1 y36.2.2.2.1) fun _x37 =>
 (Option.bind (lk y36.1 y36.2.2.2.1) fun x38 =>
 (Option.bind (lk y36.1 y36.2.2.1) fun _x39 =>
 (Option.bind (lk y36.1 y36.2.2.1) fun x40 =>
 (Option.bind (lk y36.1 y36.2.2.1) fun _x41 =>
 (Option.bind (lk y36.1 y36.2.2.1) fun x42 =>
 (Option.bind (lk (y36.1.set y36.2.2.1.toNat x38) y36.2.2.2.1) fun _x43 =>
 (Option.bind (lk (y36.1.set y36.2.2.1.toNat x38) y36.2.2.2.1) fun x44 =>
 some (.inl (((y36.1.set y36.2.2.1.toNat x38).set y36.2.2.2.1.toNat x40), (y36.2.1, ((IntKind.i64.wrap (y36.2.2.1 + (1 : Int))), ((IntKind.i64.wrap (y36.2.2.2.1 - (1 : Int))), ())))))))))))))))))
def partEq {α : Type} (less : α → α → Option (Unit × (Bool × Unit))) (p0 : List α) (p1 : Int) (p2 : Int) (p3 : Int) : Option (List α × (Int × Unit)) :=
 (Option.bind (lk p0 p3) fun _x1 =>
 (Option.bind (lk p0 p3) fun x2 =>
 (Option.bind (lk p0 p1) fun _x3 =>
 (Option.bind (lk p0 p1) fun x4 =>
 (Option.bind (lk p0 p1) fun _x5 =>
 (Option.bind (lk p0 p1) fun x6 =>
 (Option.bind (lk (p0.set p1.toNat x2) p3) fun _x7 =>
 (Option.bind (lk (p0.set p1.toNat x2) p3) fun x8 =>
 (Option.bind (iterN (fun x => partEq_s10 less x.1 x.2.1 x.2.2.1 x.2.2.2.1) fuelN (((p0.set p1.toNat x2).set p3.toNat x4), (p1, ((IntKind.i64.wrap (p1 + (1 : Int))), ((IntKind.i64.wrap (p2 - (1 : Int))), ()))))) fun y45 =>
 some (y45.1, (y45.2.1, ())))))))))))
def partition_s11 {α : Type} (less : α → α → Option (Unit × (Bool × Unit))) (a0 : List α) (a1 : Int) (a10 : Int) (a11 : Int) : Option ((List α × (Int × (Int × (Int × Unit)))) ⊕ (List α × (Int × (Int × (Int × Unit))))) :=
 (Option.bind (show Option ((List α × (Int × (Int × (Int × Unit)))) ⊕ (List α × (Int × (Int × (Int × Unit))))) from
 bif (decide (a10 ≤ a11)) then
 (Option.bind (lk a0 a10) fun _x13 =>
 (Option.bind (lk a0 a10) fun x14 =>
 (Option.bind (lk a0 a1) fun _x15 =>
 (Option.bind (lk a0 a1) fun x16 =>
 (Option.bind (less x14 x16) fun r17 =>
 bif r17.2.1 then
 some (.inl (a0, (a1, (a10, (a11, ())))))
 else
 some (.inr (a0, (a1, (a10, (a11, ()))))))))))
 else
 some (.inr (a0, (a1, (a10, (a11, ())))))) fun y18 =>
 (match y18 with
 | .inl y18 =>
 some (.inl (y18.1, (y18.2.1, ((IntKind.i64.wrap (y18.2.2.1 + (1 : Int))), (y18.2.2.2.1, ())))))
 | .inr y18 =>
 some (.inr (y18.1, (y18.2.1, (y18.2.2.1, (y18.2.2.2.1, ())))))))
def partition_s23 {α : Type} (less : α → α → Option (Unit × (Bool × Unit))) (a0 : List α) (a1 : Int) (a10 : Int) (a11 : Int) : Option ((List α × (Int × (Int × (Int × Unit)))) ⊕ (List α × (Int × (Int × (Int × Unit))))) :=
 (Option.bind (show Option ((List α × (Int × (Int × (Int × Unit)))) ⊕ (List α × (Int × (Int × (Int × Unit))))) from
 bif (decide (a10 ≤ a11)) then
 (Option.bind (lk a0 a11) fun _x25 =>
 (Option.bind (lk a0 a11) fun x26 =>
 (Option.bind (lk a0 a1) fun _x27 =>
 (Option.bind (lk a0 a1) fun x28 =>
 (Option.bind (less x26 x28) fun r29 =>
 bif (!r29.2.1) then
 some (.inl (a0, (a1, (a10, (a11, ())))))
 else
 some (.inr (a0, (a1, (a10, (a11, ()))))))))))
 else
 some (.inr (a0, (a1, (a10, (a11, ())))))) fun y30 =>
 (match y30 with
 | .inl y30 =>
 some (.inl (y30.1, (y30.2.1, (y30.2.2.1, ((IntKind.i64.wrap (y30.2.2.2.1 - (1 : Int))), ())))))
 | .inr y30 =>
 some (.inr (y30.1, (y30.2.1, (y30.2.2.1, (y30.2.2.2.1, ())))))))
def partition_s56 {α : Type} (less : α → α → Option (Unit × (Bool × Unit))) (a0 : List α) (a1 : Int) (a10 : Int) (a11 : Int) : Option ((List α × (Int × (Int × (Int × Unit)))) ⊕ (List α × (Int × (Int × (Int × Unit))))) :=
 (Option.bind (show Option ((List α × (Int × (Int × (Int × Unit)))) ⊕ (List α × (Int × (Int × (Int × Unit))))) from
 bif (decide (a10 ≤ a11)) then
 (Option.bind (lk a0 a10) fun _x58 =>
 (Option.bind (lk a0 a10) fun x59 =>
 (Option.bind (lk a0 a1) fun _x60 =>
 (Option.bind (lk a0 a1) fun x61 =>
 (Option.bind (less x59 x61) fun r62 =>
 bif r62.2.1 then
 some (.inl (a0, (a1, (a10, (a11, ())))))
 else
 some (.inr (a0, (a1, (a10, (a11, ()))))))))))
 else
 some (.inr (a0, (a1, (a10, (a11, ())))))) fun y63 =>
 (match y63 with
 | .inl y63 =>
 some (.inl (y63.1, (y63.2.1, ((IntKind.i64.wrap (y63.2.2.1 + (1 : Int))), (y63.2.2.2.1, ())))))
 | .inr y63 =>
 some (.inr (y63.1, (y63.2.1, (y63.2.2.1, (y63.2.2.2.1, ())))))))
def partition_s68 {α : Type} (less : α → α → Option (Unit × (Bool × Unit))) (a0 : List α) (a1 : Int) (a10 : Int) (a11 : Int) : Option ((List α × (Int × (Int × (Int × Unit)))) ⊕ (List α × (Int × (Int × (Int × Unit))))) :=
 (Option.bind (show Option ((List α × (Int × (Int × (Int × Unit)))) ⊕ (List α × (Int × (Int × (Int × Unit))))) from
 bif (decide (a10 ≤ a11)) then
 (Option.bind (lk a0 a11) fun _x70 =>
 (Option.bind (lk a0 a11) fun x71 =>
 (Option.bind (lk a0 a1) fun _x72 =>
 (Option.bind (lk a0 a1) fun x73 =>
 (Option.bind (less x71 x73) fun r74 =>
 bif (!r74.2.1) then
 some (.inl (a0, (a1, (a10, (a11, ())))))
 else
 some (.inr (a0, (a1, (a10, (a11, ()))))))))))
 else
 some (.inr (a0, (a1, (a10, (a11, ())))))) fun y75 =>
 (match y75 with
 | .inl y75 =>
 some (.inl (y75.1, (y75.2.1, (y75.2.2.1, ((IntKind.i64.wrap (y75.2.2.2.1 - (1 : Int))), ())))))
 | .inr y75 =>
 some (.inr (y75.1, (y75.2.1, (y75.2.2.1, (y75.2.2.2.1, ())))))))
def partition_s53 {α : Type} (less : α → α → Option (Unit × (Bool × Unit))) (a0 : List α) (a1 : Int) (a10 : Int) (a11 : Int) : Option ((List α × (Int × (Int × (Int × Unit)))) ⊕ (List α × (Int × (Int × Unit)))) :=
 (Option.bind (show Option (List α × (Int × (Int × (Int × Unit)))) from
 (Option.bind (iterN (fun x => partition_s56 less x.1 x.2.1 x.2.2.1 x.2.2.2.1) fuelN (a0, (a1, (a10, (a11, ()))))) fun y64 =>
 some (y64.1, (y64.2.1, (y64.2.2.1, (y64.2.2.2.1, ())))))) fun y65 =>
 (Option.bind (show Option (List α × (Int × (Int × (Int × Unit)))) from
 (Option.bind (iterN (fun x => partition_s68 less x.1 x.2.1 x.2.2.1 x.2.2.2.1) fuelN (y65.1, (y65.2.1, (y65.2.2.1, (y65.2.2.2.1, ()))))) fun y76 =>
 some (y76.1, (y76.2.1, (y76.2.2.1, (y76.2.2.2.1, ())))))) fun y77 =>
 (Option.bind (show Option ((List α × (Int × (Int × Unit))) ⊕ (List α × (Int × (Int × (Int × Unit))))) from
 bif (decide (y77.2.2.1 > y77.2.2.2.1)) then
 some (.inl (y77.1, (y77.2.1, (y77.2.2.2.1, ()))))
 else
 some (.inr (y77.1, (y77.2.1, (y77.2.2.1, (y77.2.2.2.1, ())))))) fun y79 =>
 (match y79 with
 | .inl y79 =>
 some (.inr (y79.1, (y79.2.1, (y79.2.2.1, ()))))
 | .inr y79 =>
 (Option.bind (lk y79.1 y79.2.2.2.1) fun _x80 =>
 (Option.bind (lk y79.1 y79.2.2.2.1) fun x81 =>
 (Option.bind (lk y79.1 y79.2.2.1) fun _x82 =>
 (Option.bind (lk y79.1 y79.2.2.1) fun x83 =>
 (Option.bind (lk y79.1 y79.2.2.1) fun _x84 =>
 (Option.bind (lk y79.1 y79.2.2.1) fun x85 =>
 (Option.bind (lk (y79.1.set y79.2.2.1.toNat x81) y79.2.2.2.1) fun _x86 =>
 (Option.bind (lk (y79.1.set y79.2.2.1.toNat x81) y79.2.2.2.1) fun x87 =>
 some (.inl (((y79.1.set y79.2.2.1.toNat x81).set y79.2.2.2.1.toNat x83), (y79.2.1, ((IntKind.i64.wrap (y79.2.2.1 + (1 : Int))), ((IntKind.i64.wrap (y79.2.2.2.1 - (1 : Int))), ())))))))))))))))))
def partition {α : Type} (less : α → α → Option (Unit × (Bool × Unit))) (p0 : List α) (p1 : Int) (p2 : Int) (p3 : Int) : Option (List α × (Int × (Bool × Unit))) :=
 (Option.bind (lk p0 p3) fun _x1 =>
 (Option.bind (lk p0 p3) fun x2 =>
 (Option.bind (lk p0 p1) fun _x3 =>
 (Option.bind (lk p0 p1) fun x4 =>
 (Option.bind (lk p0 p1) fun _x5 =>
 (Option.bind (lk p0 p1) fun x6 =>
 (Option.bind (lk (p0.set p1.toNat x2) p3) fun _x7 =>
 (Option.bind (lk (p0.set p1.toNat x2) p3) fun x8 =>
 (Option.bind (show Option (List α × (Int × (Int × (Int × Unit)))) from
 (Option.bind (iterN (fun x => partition_s11 less x.1 x.2.1 x.2.2.1 x.2.2.2.1) fuelN (((p0.set p1.toNat x2).set p3.toNat x4), (p1, ((IntKind.i64.wrap (p1 + (1 : Int))), ((IntKind.i64.wrap (p2 - (1 : Int))), ()))))) fun y19 =>
 some (y19.1, (y19.2.1, (y19.2.2.1, (y19.2.2.2.1, ())))))) fun y20 =>
 (Option.bind (show Option (List α × (Int × (Int × (Int × Unit)))) from
 (Option.bind (iterN (fun x => partition_s23 less x.1 x.2.1 x.2.2.1 x.2.2.2.1) fuelN (y20.1, (y20.2.1, (y20.2.2.1, (y20.2.2.2.1, ()))))) fun y31 =>
 some (y31.1, (y31.2.1, (y31.2.2.1, (y31.2.2.2.1, ())))))) fun y32 =>
 (Option.bind (show Option ((List α × (Int × (Bool × Unit))) ⊕ (List α × (Int × (Int × (Int × Unit))))) from
 bif (decide (y32.2.2.1 > y32.2.2.2.1)) then
 (Option.bind (lk y32.1 y32.2.1) fun _x34 =>
 (Option.bind (lk y32.1 y32.2.1) fun x35 =>
 (Option.bind (lk y32.1 y32.2.2.2.1) fun _x36 =>
 (Option.bind (lk y32.1 y32.2.2.2.1) fun x37 =>
 (Option.bind (lk y32.1 y32.2.2.2.1) fun _x38 =>
 (Option.bind (lk y32.1 y32.2.2.2.1) fun x39 =>
 (Option.bind (lk (y32.1.set y32.2.2.2.1.toNat x35) y32.2.1) fun _x40 =>
 (Option.bind (lk (y32.1.set y32.2.2.2.1.toNat x35) y32.2.1) fun x41 =>
 some (.inl (((y32.1.set y32.2.2.2.1.toNat x35).set y32.2.1.toNat x37), (y32.2.2.2.1, (true, ()))))))))))))
 else
 some (.inr (y32.1, (y32.2.1, (y32.2.2.1, (y32.2.2.2.1, ())))))) fun y42 =>
 (match y42 with
 | .inl y42 =>
 some (y42.1, (y42.2.1, (y42.2.2.1, ())))
 | .inr y42 =>
 (Option.bind (lk y42.1 y42.2.2.2.1) fun _x43 =>
 (Option.bind (lk y42.1 y42.2.2.2.1) fun x44 =>
 (Option.bind (lk y42.1 y42.2.2.1) fun _x45 =>
 (Option.bind (lk y42.1 y42.2.2.1) fun x46 =>
 (Option.bind (lk y42.1 y42.2.2.1) fun _x47 =>
 (Option.bind (lk y42.1 y42.2.2.1) fun x48 =>
 (Option.bind (lk (y42.1.set y42.2.2.1.toNat x44) y42.2.2.2.1) fun _x49 =>
 (Option.bind (lk (y42.1.set y42.2.2.1.toNat x44) y42.2.2.2.1) fun x50 =>
 (Option.bind (show Option (List α × (Int × (Int × Unit))) from
 (Option.bind (iterN (fun x => partition_s53 less x.1 x.2.1 x.2.2.1 x.2.2.2.1) fuelN (((y42.1.set y42.2.2.1.toNat x44).set y42.2.2.2.1.toNat x46), (y42.2.1, ((IntKind.i64.wrap (y42.2.2.1 + (1 : Int))), ((IntKind.i64.wrap (y42.2.2.2.1 - (1 : Int))), ()))))) fun y88 =>
 some (y88.1, (y88.2.1, (y88.2.2.1, ()))))) fun y89 =>
 (Option.bind (lk y89.1 y89.2.1) fun _x90 =>
 (Option.bind (lk y89.1 y89.2.1) fun x91 =>
 (Option.bind (lk y89.1 y89.2.2.1) fun _x92 =>
 (Option.bind (lk y89.1 y89.2.2.1) fun x93 =>
 (Option.bind (lk y89.1 y89.2.2.1) fun _x94 =>
 (Option.bind (lk y89.1 y89.2.2.1) fun x95 =>
 (Option.bind (lk (y89.1.set y89.2.2.1.toNat x91) y89.2.1) fun _x96 =>
 (Option.bind (lk (y89.1.set y89.2.2.1.toNat x91) y89.2.1) fun x97 =>
 some (((y89.1.set y89.2.2.1.toNat x91).set y89.2.1.toNat x93), (y89.2.2.1, (false, ()))))))))))))))))))))))))))))))))
def pdq0_s2 {α : Type} (less : α → α → Option (Unit × (Bool × Unit))) (rec : List α → Int → Int → Int → Option (List α × Unit)) (a0 : List α) (a1 : Int) (a2 : Int) (a3 : Int) (a8 : Bool) (a9 : Bool) : Option ((List α × (Int × (Int × (Int × (Bool × (Bool × Unit)))))) ⊕ (List α × Unit)) :=
 (Option.bind (show Option ((List α × Unit) ⊕ (List α × (Int × (Int × (Int × (Bool × (Bool × (Int × Unit)))))))) from
 bif (decide ((IntKind.i64.wrap (a2 - a1)) ≤ (12 : Int))) then
 (Option.bind (insSort less a0 a1 a2) fun r4 =>
 some (.inl (r4.1, ())))
 else
 some (.inr (a0, (a1, (a2, (a3, (a8, (a9, ((IntKind.i64.wrap (a2 - a1)), ()))))))))) fun y5 =>
 (match y5 with
 | .inl y5 =>
 some (.inr (y5.1, ()))
 | .inr y5 =>
 (Option.bind (show Option ((List α × Unit) ⊕ (List α × (Int × (Int × (Int × (Bool × (Bool × (Int × Unit)))))))) from
 bif (y5.2.2.2.1 == (0 : Int)) then
 (Option.bind (heapSort less y5.1 y5.2.1 y5.2.2.1) fun r7 =>
 some (.inl (r7.1, ())))
 else
 some (.inr (y5.1, (y5.2.1, (y5.2.2.1, (y5.2.2.2.1, (y5.2.2.2.2.1, (y5.2.2.2.2.2.1, (y5.2.2.2.2.2.2.1, ()))))))))) fun y8 =>
 (match y8 with
 | .inl y8 =>
 some (.inr (y8.1, ()))
 | .inr y8 =>
 (Option.bind (show Option (List α × (Int × (Int × (Int × (Bool × (Bool × (Int × Unit))))))) from
 bif (!y8.2.2.2.2.1) then
 (Option.bind (breakPat y8.1 y8.2.1 y8.2.2.1) fun r10 =>
 some (r10.1, (y8.2.1, (y8.2.2.1, ((IntKind.i64.wrap (y8.2.2.2.1 - (1 : Int))), (y8.2.2.2.2.1, (y8.2.2.2.2.2.1, (y8.2.2.2.2.2.2.1, ()))))))))
 else
 some (y8.1, (y8.2.1, (y8.2.2.1, (y8.2.2.2.1, (y8.2.2.2.2.1, (y8.2.2.2.2.2.1, (y8.2.2.2.2.2.2.1, ())))))))) fun y11 =>
 (Option.bind (choosePiv less y11.1 y11.2.1 y11.2.2.1) fun r12 =>
 (Option.bind (show Option (List α × (Int × (Int × (Int × (Bool × (Bool × (Int × (Int × (Int × Unit))))))))) from
 bif (r12.2.2.1 == (2 : Int)) then
 (Option.bind (revRange y11.1 y11.2.1 y11.2.2.1) fun r14 =>
 let v15 := (IntKind.i64.wrap ((IntKind.i64.wrap (y11.2.2.1 - (1 : Int))) - (IntKind.i64.wrap (r12.2.1 - y11.2.1))))
 some (r14.1, (y11.2.1, (y11.2.2.1, (y11.2.2.2.1, (y11.2.2.2.2.1, (y11.2.2.2.2.2.1, (y11.2.2.2.2.2.2.1, (v15, ((1 : Int), ()))))))))))
 else
 some (y11.1, (y11.2.1, (y11.2.2.1, (y11.2.2.2.1, (y11.2.2.2.2.1, (y11.2.2.2.2.2.1, (y11.2.2.2.2.2.2.1, (r12.2.1, (r12.2.2.1, ())))))))))) fun y16 =>
 (Option.bind (show Option ((List α × Unit) ⊕ (List α × (Int × (Int × (Int × (Bool × (Bool × (Int × (Int × Unit))))))))) from
 (Option.bind (show Option (List α × (Int × (Int × (Int × (Bool × (Bool × (Int × (Int × (Bool × Unit))))))))) from
 bif y16.2.2.2.2.1 then
 bif y16.2.2.2.2.2.1 then
 some (y16.1, (y16.2.1, (y16.2.2.1, (y16.2.2.2.1, (y16.2.2.2.2.1, (y16.2.2.2.2.2.1, (y16.2.2.2.2.2.2.1, (y16.2.2.2.2.2.2.2.1, ((y16.2.2.2.2.2.2.2.2.1 == (1 : Int)), ())))))))))
 else
 some (y16.1, (y16.2.1, (y16.2.2.1, (y16.2.2.2.1, (y16.2.2.2.2.1, (y16.2.2.2.2.2.1, (y16.2.2.2.2.2.2.1, (y16.2.2.2.2.2.2.2.1, (false, ())))))))))
 else
 some (y16.1, (y16.2.1, (y16.2.2.1, (y16.2.2.2.1, (y16.2.2.2.2.1, (y16.2.2.2.2.2.1, (y16.2.2.2.2.2.2.1, (y16.2.2.2.2.2.2.2.1, (false, ())))))))))) fun y19 =>
 bif y19.2.2.2.2.2.2.2.2.1 then
 (Option.bind (partIns less y19.1 y19.2.1 y19.2.2.1) fun r20 =>
 bif r20.2.1 then
 some (.inl (r20.1, ()))
 else
 some (.inr (r20.1, (y19.2.1, (y19.2.2.1, (y19.2.2.2.1, (y19.2.2.2.2.1, (y19.2.2.2.2.2.1, (y19.2.2.2.2.2.2.1, (y19.2.2.2.2.2.2.2.1, ()))))))))))
 else
 some (.inr (y19.1, (y19.2.1, (y19.2.2.1, (y19.2.2.2.1, (y19.2.2.2.2.1, (y19.2.2.2.2.2.1, (y19.2.2.2.2.2.2.1, (y19.2.2.2.2.2.2.2.1, ()))))))))))) fun y21 =>
 (match y21 with
 | .inl y21 =>
 some (.inr (y21.1, ()))
 | .inr y21 =>
 (Option.bind (show Option ((List α × (Int × (Int × (Int × (Bool × (Bool × Unit)))))) ⊕ (List α × (Int × (Int × (Int × (Int × (Int × Unit))))))) from
 (Option.bind (show Option (List α × (Int × (Int × (Int × (Bool × (Bool × (Int × (Int × (Bool × Unit))))))))) from
 bif (decide (y21.2.1 > (0 : Int))) then
 (Option.bind (lk y21.1 (IntKind.i64.wrap (y21.2.1 - (1 : Int)))) fun _x24 =>
 (Option.bind (lk y21.1 (IntKind.i64.wrap (y21.2.1 - (1 : Int)))) fun x25 =>
 (Option.bind (lk y21.1 y21.2.2.2.2.2.2.2.1) fun _x26 =>
 (Option.bind (lk y21.1 y21.2.2.2.2.2.2.2.1) fun x27 =>
 (Option.bind (less x25 x27) fun r28 =>
 some (y21.1, (y21.2.1, (y21.2.2.1, (y21.2.2.2.1, (y21.2.2.2.2.1, (y21.2.2.2.2.2.1, (y21.2.2.2.2.2.2.1, (y21.2.2.2.2.2.2.2.1, ((!r28.2.1), ()))))))))))))))
 else
 some (y21.1, (y21.2.1, (y21.2.2.1, (y21.2.2.2.1, (y21.2.2.2.2.1, (y21.2.2.2.2.2.1, (y21.2.2.2.2.2.2.1, (y21.2.2.2.2.2.2.2.1, (false, ())))))))))) fun y29 =>
 bif y29.2.2.2.2.2.2.2.2.1 then
 (Option.bind (partEq less y29.1 y29.2.1 y29.2.2.1 y29.2.2.2.2.2.2.2.1) fun r30 =>
 some (.inl (r30.1, (r30.2.1, (y29.2.2.1, (y29.2.2.2.1, (y29.2.2.2.2.1, (y29.2.2.2.2.2.1, ()))))))))
 else
 some (.inr (y29.1, (y29.2.1, (y29.2.2.1, (y29.2.2.2.1, (y29.2.2.2.2.2.2.1, (y29.2.2.2.2.2.2.2.1, ()))))))))) fun y31 =>
 (match y31 with
 | .inl y31 =>
 some (.inl (y31.1, (y31.2.1, (y31.2.2.1, (y31.2.2.2.1, (y31.2.2.2.2.1, (y31.2.2.2.2.2.1, ())))))))
 | .inr y31 =>
 (Option.bind (partition less y31.1 y31.2.1 y31.2.2.1 y31.2.2.2.2.2.1) fun r32 =>
 bif ((8 : Int) != 0) then
 let v33 := (decide ((IntKind.i64.wrap (r32.2.1 - y31.2.1)) < (IntKind.i64.wrap (y31.2.2.1 - r32.2.1))))
 bif v33 then
 let v34 := (decide ((IntKind.i64.wrap (r32.2.1 - y31.2.1)) ≥ (IntKind.i64.wrap (Int.tdiv y31.2.2.2.2.1 (8 : Int)))))
 (Option.bind (rec r32.1 y31.2.1 r32.2.1 y31.2.2.2.1) fun r35 =>
 some (.inl (r35.1, ((IntKind.i64.wrap (r32.2.1 + (1 : Int))), (y31.2.2.1, (y31.2.2.2.1, (v34, (r32.2.2.1, ()))))))))
 else
 let v36 := (decide ((IntKind.i64.wrap (y31.2.2.1 - r32.2.1)) ≥ (IntKind.i64.wrap (Int.tdiv y31.2.2.2.2.1 (8 : Int)))))
 (Option.bind (rec r32.1 (IntKind.i64.wrap (r32.2.1 + (1 : Int))) y31.2.2.1 y31.2.2.2.1) fun r37 =>
 some (.inl (r37.1, (y31.2.1, (r32.2.1, (y31.2.2.2.1, (v36, (r32.2.2.1, ()))))))))
 else none))))))))))))
def pdq0 {α : Type} (less : α → α → Option (Unit × (Bool × Unit))) (rec : List α → Int → Int → Int → Option (List α × Unit)) (p0 : List α) (p1 : Int) (p2 : Int) (p3 : Int) : Option (List α × Unit) :=
 (Option.bind (iterN (fun x => pdq0_s2 less rec x.1 x.2.1 x.2.2.1 x.2.2.2.1 x.2.2.2.2.1 x.2.2.2.2.2.1) fuelN (p0, (p1, (p2, (p3, (true, (true, ()))))))) fun y38 =>
 some (y38.1, ()))
def sortG {α : Type} (rec : List α → Int → Int → Int → Option (List α × Unit)) (p0 : List α) : Option (List α × Unit) :=
 (Option.bind (bitsLen (IntKind.u64.wrap ((p0.length : Int)))) fun r1 =>
 (Option.bind (rec p0 (0 : Int) (p0.length : Int) r1.2.1) fun r2 =>
 some (r2.1, ())))
end
end Go.Vu.Srt
