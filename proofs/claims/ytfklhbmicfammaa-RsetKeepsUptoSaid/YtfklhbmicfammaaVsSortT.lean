/- The sort's values' functions over any type (written by mksort.py out of the print). -/
import Derived.Test.YtfklhbmicfammaaVsRt
set_option linter.unusedVariables false
set_option maxRecDepth 100000
namespace Go.Vs.Srt
noncomputable section
open Go Go.Vs

def len64 (p0 : Int) : Option (Unit × (Int × Unit)) :=
 (Option.bind (show Option ((Int × (Int × Unit)) × Unit) from
 bif (decide (p0 ≥ (4294967296 : Int))) then
 bif (decide (0 ≤ (32 : Int))) then
 some (((Int.fdiv p0 (2 ^ (min (32 : Int).toNat IntKind.u64.bits))), ((32 : Int), ())), ())
 else none
 else
 some ((p0, ((0 : Int), ())), ())) fun y2 =>
 (Option.bind (show Option ((Int × (Int × Unit)) × Unit) from
 bif (decide (y2.1.1 ≥ (65536 : Int))) then
 bif (decide (0 ≤ (16 : Int))) then
 let v4 := (Int.fdiv y2.1.1 (2 ^ (min (16 : Int).toNat IntKind.u64.bits)))
 some ((v4, ((IntKind.i64.wrap (y2.1.2.1 + (16 : Int))), ())), ())
 else none
 else
 some ((y2.1.1, (y2.1.2.1, ())), ())) fun y5 =>
 (Option.bind (show Option ((Int × (Int × Unit)) × Unit) from
 bif (decide (y5.1.1 ≥ (256 : Int))) then
 bif (decide (0 ≤ (8 : Int))) then
 let v7 := (Int.fdiv y5.1.1 (2 ^ (min (8 : Int).toNat IntKind.u64.bits)))
 some ((v7, ((IntKind.i64.wrap (y5.1.2.1 + (8 : Int))), ())), ())
 else none
 else
 some ((y5.1.1, (y5.1.2.1, ())), ())) fun y8 =>
 (Option.bind (lk ([0, 1, 2, 2, 3, 3, 3, 3, 4, 4, 4, 4, 4, 4, 4, 4, 5, 5, 5, 5, 5, 5, 5, 5, 5, 5, 5, 5, 5, 5, 5, 5, 6, 6, 6, 6, 6, 6, 6, 6, 6, 6, 6, 6, 6, 6, 6, 6, 6, 6, 6, 6, 6, 6, 6, 6, 6, 6, 6, 6, 6, 6, 6, 6, 7, 7, 7, 7, 7, 7, 7, 7, 7, 7, 7, 7, 7, 7, 7, 7, 7, 7, 7, 7, 7, 7, 7, 7, 7, 7, 7, 7, 7, 7, 7, 7, 7, 7, 7, 7, 7, 7, 7, 7, 7, 7, 7, 7, 7, 7, 7, 7, 7, 7, 7, 7, 7, 7, 7, 7, 7, 7, 7, 7, 7, 7, 7, 7, 8, 8, 8, 8, 8, 8, 8, 8, 8, 8, 8, 8, 8, 8, 8, 8, 8, 8, 8, 8, 8, 8, 8, 8, 8, 8, 8, 8, 8, 8, 8, 8, 8, 8, 8, 8, 8, 8, 8, 8, 8, 8, 8, 8, 8, 8, 8, 8, 8, 8, 8, 8, 8, 8, 8, 8, 8, 8, 8, 8, 8, 8, 8, 8, 8, 8, 8, 8, 8, 8, 8, 8, 8, 8, 8, 8, 8, 8, 8, 8, 8, 8, 8, 8, 8, 8, 8, 8, 8, 8, 8, 8, 8, 8, 8, 8, 8, 8, 8, 8, 8, 8, 8, 8, 8, 8, 8, 8, 8, 8, 8, 8, 8, 8, 8, 8, 8, 8, 8, 8, 8, 8, 8, 8, 8, 8, 8, 8] : List UInt8) (IntKind.u8.wrap (y8.1.1))) fun b9 =>
 let v10 := (IntKind.i64.wrap (y8.1.2.1 + (IntKind.i64.wrap ((b9.toNat : Int)))))
 some ((), (v10, ()))))))

def bitsLen (p0 : Int) : Option (Unit × (Int × Unit)) :=
 (Option.bind (show Option ((Int × Unit) × Unit) from
 some ((p0, ()), ())) fun y2 =>
 (Option.bind (len64 y2.1.1) fun r3 =>
 some ((), (r3.2.1, ()))))

def nextPow (p0 : Int) : Option (Unit × (Int × Unit)) :=
 (Option.bind (bitsLen (IntKind.u64.wrap (p0))) fun r1 =>
 bif (decide (0 ≤ r1.2.1)) then
 let v2 := (IntKind.u64.wrap ((1 : Int) * 2 ^ (min r1.2.1.toNat IntKind.u64.bits)))
 some ((), (v2, ()))
 else none)

def xorNext (p0 : List Int) : Option (List Int × (Int × Unit)) :=
 (Option.bind (lk p0 (0 : Int)) fun x1 =>
 (Option.bind (lk p0 (0 : Int)) fun x2 =>
 bif (decide (0 ≤ (13 : Int))) then
 let v3 := (IntKind.u64.wrap (x2 * 2 ^ (min (13 : Int).toNat IntKind.u64.bits)))
 let v4 := (IntKind.u64.wrap (((BitVec.ofInt IntKind.u64.bits x1 ^^^ BitVec.ofInt IntKind.u64.bits v3).toNat : Int)))
 (Option.bind (lk p0 (0 : Int)) fun x5 =>
 (Option.bind (lk (p0.set (0 : Int).toNat v4) (0 : Int)) fun x6 =>
 (Option.bind (lk (p0.set (0 : Int).toNat v4) (0 : Int)) fun x7 =>
 bif (decide (0 ≤ (7 : Int))) then
 let v8 := (IntKind.u64.wrap (((BitVec.ofInt IntKind.u64.bits x6 ^^^ BitVec.ofInt IntKind.u64.bits (Int.fdiv x7 (2 ^ (min (7 : Int).toNat IntKind.u64.bits)))).toNat : Int)))
 (Option.bind (lk (p0.set (0 : Int).toNat v4) (0 : Int)) fun x9 =>
 (Option.bind (lk ((p0.set (0 : Int).toNat v4).set (0 : Int).toNat v8) (0 : Int)) fun x10 =>
 (Option.bind (lk ((p0.set (0 : Int).toNat v4).set (0 : Int).toNat v8) (0 : Int)) fun x11 =>
 bif (decide (0 ≤ (17 : Int))) then
 let v12 := (IntKind.u64.wrap (x11 * 2 ^ (min (17 : Int).toNat IntKind.u64.bits)))
 let v13 := (IntKind.u64.wrap (((BitVec.ofInt IntKind.u64.bits x10 ^^^ BitVec.ofInt IntKind.u64.bits v12).toNat : Int)))
 (Option.bind (lk ((p0.set (0 : Int).toNat v4).set (0 : Int).toNat v8) (0 : Int)) fun x14 =>
 let l15 := (((p0.set (0 : Int).toNat v4).set (0 : Int).toNat v8).set (0 : Int).toNat v13)
 (Option.bind (lk l15 (0 : Int)) fun x16 =>
 bif onlyB l15.length (0 : Int) then
 some (l15, (x16, ()))
 else none))
 else none)))
 else none)))
 else none))

def insSort_s7 {α : Type} (less : α → α → Option (Unit × (Bool × Unit))) (a1 : Int) (a2 : Int) (a6 : Int) (a7 : Int) (g0 : List α) : Option (((Int × (Int × (Int × (Int × Unit)))) × (List α × Unit)) ⊕ ((Int × (Int × (Int × Unit))) × (List α × Unit))) :=
 (Option.bind (show Option (((Int × (Int × (Int × (Int × Unit)))) × (List α × Unit)) ⊕ ((Int × (Int × (Int × Unit))) × (List α × Unit))) from
 bif (decide (a7 > a1)) then
 (Option.bind (lk g0 a7) fun _x9 =>
 (Option.bind (lk g0 a7) fun x10 =>
 (Option.bind (lk g0 (IntKind.i64.wrap (a7 - (1 : Int)))) fun _x11 =>
 (Option.bind (lk g0 (IntKind.i64.wrap (a7 - (1 : Int)))) fun x12 =>
 (Option.bind (less x10 x12) fun r13 =>
 bif r13.2.1 then
 some (.inl ((a1, (a2, (a6, (a7, ())))), (g0, ())))
 else
 some (.inr ((a1, (a2, (a6, ()))), (g0, ()))))))))
 else
 some (.inr ((a1, (a2, (a6, ()))), (g0, ())))) fun y14 =>
 (match y14 with
 | .inl y14 =>
 (Option.bind (show Option ((Int × (Int × (Int × (Int × Unit)))) × (List α × Unit)) from
 (Option.bind (lk y14.2.1 (IntKind.i64.wrap (y14.1.2.2.2.1 - (1 : Int)))) fun _x16 =>
 (Option.bind (lk y14.2.1 (IntKind.i64.wrap (y14.1.2.2.2.1 - (1 : Int)))) fun x17 =>
 (Option.bind (lk y14.2.1 y14.1.2.2.2.1) fun _x18 =>
 (Option.bind (lk y14.2.1 y14.1.2.2.2.1) fun x19 =>
 (Option.bind (lk y14.2.1 y14.1.2.2.2.1) fun _x20 =>
 (Option.bind (lk y14.2.1 y14.1.2.2.2.1) fun x21 =>
 (Option.bind (lk (y14.2.1.set y14.1.2.2.2.1.toNat x17) (IntKind.i64.wrap (y14.1.2.2.2.1 - (1 : Int)))) fun _x22 =>
 (Option.bind (lk (y14.2.1.set y14.1.2.2.2.1.toNat x17) (IntKind.i64.wrap (y14.1.2.2.2.1 - (1 : Int)))) fun x23 =>
 let l24 := ((y14.2.1.set y14.1.2.2.2.1.toNat x17).set (IntKind.i64.wrap (y14.1.2.2.2.1 - (1 : Int))).toNat x19)
 some ((y14.1.1, (y14.1.2.1, (y14.1.2.2.1, (y14.1.2.2.2.1, ())))), (l24, ()))))))))))) fun y25 =>
 some (.inl ((y25.1.1, (y25.1.2.1, (y25.1.2.2.1, ((IntKind.i64.wrap (y25.1.2.2.2.1 - (1 : Int))), ())))), (y25.2.1, ()))))
 | .inr y14 =>
 some (.inr ((y14.1.1, (y14.1.2.1, (y14.1.2.2.1, ()))), (y14.2.1, ())))))

def insSort_s2 {α : Type} (less : α → α → Option (Unit × (Bool × Unit))) (a1 : Int) (a2 : Int) (a6 : Int) (g0 : List α) : Option (((Int × (Int × (Int × Unit))) × (List α × Unit)) ⊕ (Unit × (List α × Unit))) :=
 (Option.bind (show Option (((Int × (Int × (Int × Unit))) × (List α × Unit)) ⊕ (Unit × (List α × Unit))) from
 bif (decide (a6 < a2)) then
 some (.inl ((a1, (a2, (a6, ()))), (g0, ())))
 else
 some (.inr ((), (g0, ())))) fun y4 =>
 (match y4 with
 | .inl y4 =>
 (Option.bind (show Option ((Int × (Int × (Int × Unit))) × (List α × Unit)) from
 (Option.bind (iterN (fun x => insSort_s7 less x.1.1 x.1.2.1 x.1.2.2.1 x.1.2.2.2.1 x.2.1) fuelN ((y4.1.1, (y4.1.2.1, (y4.1.2.2.1, (y4.1.2.2.1, ())))), (y4.2.1, ()))) fun y26 =>
 some ((y26.1.1, (y26.1.2.1, (y26.1.2.2.1, ()))), (y26.2.1, ())))) fun y27 =>
 some (.inl ((y27.1.1, (y27.1.2.1, ((IntKind.i64.wrap (y27.1.2.2.1 + (1 : Int))), ()))), (y27.2.1, ()))))
 | .inr y4 =>
 some (.inr ((), (y4.2.1, ())))))

def insSort {α : Type} (less : α → α → Option (Unit × (Bool × Unit))) (p0 : List α) (p1 : Int) (p2 : Int) : Option (List α × Unit) :=
 (Option.bind (iterN (fun x => insSort_s2 less x.1.1 x.1.2.1 x.1.2.2.1 x.2.1) fuelN ((p1, (p2, ((IntKind.i64.wrap (p1 + (1 : Int))), ()))), (p0, ()))) fun y28 =>
 some (y28.2.1, ()))

def siftDown_s2 {α : Type} (less : α → α → Option (Unit × (Bool × Unit))) (a2 : Int) (a3 : Int) (a8 : Int) (g0 : List α) : Option (((Int × (Int × (Int × Unit))) × (List α × Unit)) ⊕ ((Unit × (List α × Unit)) ⊕ (Unit × (List α × Unit)))) :=
 let v3 := (IntKind.i64.wrap ((IntKind.i64.wrap ((2 : Int) * a8)) + (1 : Int)))
 (Option.bind (show Option ((Unit × (List α × Unit)) ⊕ ((Int × (Int × (Int × (Int × Unit)))) × (List α × Unit))) from
 bif (decide (v3 ≥ a2)) then
 some (.inl ((), (g0, ())))
 else
 some (.inr ((a2, (a3, (a8, (v3, ())))), (g0, ())))) fun y5 =>
 (match y5 with
 | .inl y5 =>
 some (.inr (.inl ((), (y5.2.1, ()))))
 | .inr y5 =>
 (Option.bind (show Option ((Int × (Int × (Int × (Int × Unit)))) × (List α × Unit)) from
 (Option.bind (show Option ((Int × (Int × (Int × (Int × (Bool × Unit))))) × (List α × Unit)) from
 let v8 := (decide ((IntKind.i64.wrap (y5.1.2.2.2.1 + (1 : Int))) < y5.1.1))
 bif v8 then
 (Option.bind (lk y5.2.1 (IntKind.i64.wrap (y5.1.2.1 + y5.1.2.2.2.1))) fun _x9 =>
 (Option.bind (lk y5.2.1 (IntKind.i64.wrap (y5.1.2.1 + y5.1.2.2.2.1))) fun x10 =>
 let v11 := (IntKind.i64.wrap ((IntKind.i64.wrap (y5.1.2.1 + y5.1.2.2.2.1)) + (1 : Int)))
 (Option.bind (lk y5.2.1 v11) fun _x12 =>
 (Option.bind (lk y5.2.1 v11) fun x13 =>
 (Option.bind (less x10 x13) fun r14 =>
 some ((y5.1.1, (y5.1.2.1, (y5.1.2.2.1, (y5.1.2.2.2.1, (r14.2.1, ()))))), (y5.2.1, ())))))))
 else
 some ((y5.1.1, (y5.1.2.1, (y5.1.2.2.1, (y5.1.2.2.2.1, (false, ()))))), (y5.2.1, ()))) fun y15 =>
 bif y15.1.2.2.2.2.1 then
 some ((y15.1.1, (y15.1.2.1, (y15.1.2.2.1, ((IntKind.i64.wrap (y15.1.2.2.2.1 + (1 : Int))), ())))), (y15.2.1, ()))
 else
 some ((y15.1.1, (y15.1.2.1, (y15.1.2.2.1, (y15.1.2.2.2.1, ())))), (y15.2.1, ())))) fun y16 =>
 (Option.bind (show Option ((Unit × (List α × Unit)) ⊕ ((Int × (Int × (Int × (Int × Unit)))) × (List α × Unit))) from
 (Option.bind (lk y16.2.1 (IntKind.i64.wrap (y16.1.2.1 + y16.1.2.2.1))) fun _x18 =>
 (Option.bind (lk y16.2.1 (IntKind.i64.wrap (y16.1.2.1 + y16.1.2.2.1))) fun x19 =>
 (Option.bind (lk y16.2.1 (IntKind.i64.wrap (y16.1.2.1 + y16.1.2.2.2.1))) fun _x20 =>
 (Option.bind (lk y16.2.1 (IntKind.i64.wrap (y16.1.2.1 + y16.1.2.2.2.1))) fun x21 =>
 (Option.bind (less x19 x21) fun r22 =>
 bif (!r22.2.1) then
 some (.inl ((), (y16.2.1, ())))
 else
 some (.inr ((y16.1.1, (y16.1.2.1, (y16.1.2.2.1, (y16.1.2.2.2.1, ())))), (y16.2.1, ()))))))))) fun y23 =>
 (match y23 with
 | .inl y23 =>
 some (.inr (.inr ((), (y23.2.1, ()))))
 | .inr y23 =>
 (Option.bind (lk y23.2.1 (IntKind.i64.wrap (y23.1.2.1 + y23.1.2.2.2.1))) fun _x24 =>
 (Option.bind (lk y23.2.1 (IntKind.i64.wrap (y23.1.2.1 + y23.1.2.2.2.1))) fun x25 =>
 (Option.bind (lk y23.2.1 (IntKind.i64.wrap (y23.1.2.1 + y23.1.2.2.1))) fun _x26 =>
 (Option.bind (lk y23.2.1 (IntKind.i64.wrap (y23.1.2.1 + y23.1.2.2.1))) fun x27 =>
 (Option.bind (lk y23.2.1 (IntKind.i64.wrap (y23.1.2.1 + y23.1.2.2.1))) fun _x28 =>
 (Option.bind (lk y23.2.1 (IntKind.i64.wrap (y23.1.2.1 + y23.1.2.2.1))) fun x29 =>
 let l30 := (y23.2.1.set (IntKind.i64.wrap (y23.1.2.1 + y23.1.2.2.1)).toNat x25)
 (Option.bind (lk l30 (IntKind.i64.wrap (y23.1.2.1 + y23.1.2.2.2.1))) fun _x31 =>
 (Option.bind (lk l30 (IntKind.i64.wrap (y23.1.2.1 + y23.1.2.2.2.1))) fun x32 =>
 let l33 := (l30.set (IntKind.i64.wrap (y23.1.2.1 + y23.1.2.2.2.1)).toNat x27)
 some (.inl ((y23.1.1, (y23.1.2.1, (y23.1.2.2.2.1, ()))), (l33, ()))))))))))))))))

def siftDown {α : Type} (less : α → α → Option (Unit × (Bool × Unit))) (p0 : List α) (p1 : Int) (p2 : Int) (p3 : Int) : Option (List α × Unit) :=
 (Option.bind (iterN (fun x => siftDown_s2 less x.1.1 x.1.2.1 x.1.2.2.1 x.2.1) fuelN ((p2, (p3, (p1, ()))), (p0, ()))) fun y34 =>
 (match y34 with
 | .inl y34 =>
 some (y34.2.1, ())
 | .inr y34 =>
 some (y34.2.1, ())))

def heapSort_s4 {α : Type} (less : α → α → Option (Unit × (Bool × Unit))) (a6 : Int) (a7 : Int) (a8 : Int) (a9 : Int) (g0 : List α) : Option (((Int × (Int × (Int × (Int × Unit)))) × (List α × Unit)) ⊕ ((Int × (Int × (Int × Unit))) × (List α × Unit))) :=
 (Option.bind (show Option (((Int × (Int × (Int × (Int × Unit)))) × (List α × Unit)) ⊕ ((Int × (Int × (Int × Unit))) × (List α × Unit))) from
 bif (decide (a9 ≥ (0 : Int))) then
 some (.inl ((a6, (a7, (a8, (a9, ())))), (g0, ())))
 else
 some (.inr ((a6, (a7, (a8, ()))), (g0, ())))) fun y6 =>
 (match y6 with
 | .inl y6 =>
 (Option.bind (show Option ((Int × (Int × (Int × (Int × Unit)))) × (List α × Unit)) from
 (Option.bind (siftDown less y6.2.1 y6.1.2.2.2.1 y6.1.2.2.1 y6.1.1) fun r8 =>
 some ((y6.1.1, (y6.1.2.1, (y6.1.2.2.1, (y6.1.2.2.2.1, ())))), (r8.1, ())))) fun y9 =>
 some (.inl ((y9.1.1, (y9.1.2.1, (y9.1.2.2.1, ((IntKind.i64.wrap (y9.1.2.2.2.1 - (1 : Int))), ())))), (y9.2.1, ()))))
 | .inr y6 =>
 some (.inr ((y6.1.1, (y6.1.2.1, (y6.1.2.2.1, ()))), (y6.2.1, ())))))

def heapSort_s13 {α : Type} (less : α → α → Option (Unit × (Bool × Unit))) (a6 : Int) (a7 : Int) (a10 : Int) (g0 : List α) : Option (((Int × (Int × (Int × Unit))) × (List α × Unit)) ⊕ (Unit × (List α × Unit))) :=
 (Option.bind (show Option (((Int × (Int × (Int × Unit))) × (List α × Unit)) ⊕ (Unit × (List α × Unit))) from
 bif (decide (a10 ≥ (0 : Int))) then
 some (.inl ((a6, (a7, (a10, ()))), (g0, ())))
 else
 some (.inr ((), (g0, ())))) fun y15 =>
 (match y15 with
 | .inl y15 =>
 (Option.bind (show Option ((Int × (Int × (Int × Unit))) × (List α × Unit)) from
 (Option.bind (lk y15.2.1 (IntKind.i64.wrap (y15.1.1 + y15.1.2.2.1))) fun _x17 =>
 (Option.bind (lk y15.2.1 (IntKind.i64.wrap (y15.1.1 + y15.1.2.2.1))) fun x18 =>
 (Option.bind (lk y15.2.1 y15.1.1) fun _x19 =>
 (Option.bind (lk y15.2.1 y15.1.1) fun x20 =>
 (Option.bind (lk y15.2.1 y15.1.1) fun _x21 =>
 (Option.bind (lk y15.2.1 y15.1.1) fun x22 =>
 (Option.bind (lk (y15.2.1.set y15.1.1.toNat x18) (IntKind.i64.wrap (y15.1.1 + y15.1.2.2.1))) fun _x23 =>
 (Option.bind (lk (y15.2.1.set y15.1.1.toNat x18) (IntKind.i64.wrap (y15.1.1 + y15.1.2.2.1))) fun x24 =>
 let l25 := ((y15.2.1.set y15.1.1.toNat x18).set (IntKind.i64.wrap (y15.1.1 + y15.1.2.2.1)).toNat x20)
 (Option.bind (siftDown less l25 y15.1.2.1 y15.1.2.2.1 y15.1.1) fun r26 =>
 some ((y15.1.1, (y15.1.2.1, (y15.1.2.2.1, ()))), (r26.1, ())))))))))))) fun y27 =>
 some (.inl ((y27.1.1, (y27.1.2.1, ((IntKind.i64.wrap (y27.1.2.2.1 - (1 : Int))), ()))), (y27.2.1, ()))))
 | .inr y15 =>
 some (.inr ((), (y15.2.1, ())))))

def heapSort {α : Type} (less : α → α → Option (Unit × (Bool × Unit))) (p0 : List α) (p1 : Int) (p2 : Int) : Option (List α × Unit) :=
 (Option.bind (show Option ((Int × (Int × (Int × Unit))) × (List α × Unit)) from
 let v2 := (IntKind.i64.wrap ((IntKind.i64.wrap (p2 - p1)) - (1 : Int)))
 bif ((2 : Int) != 0) then
 (Option.bind (iterN (fun x => heapSort_s4 less x.1.1 x.1.2.1 x.1.2.2.1 x.1.2.2.2.1 x.2.1) fuelN ((p1, ((0 : Int), ((IntKind.i64.wrap (p2 - p1)), ((IntKind.i64.wrap (Int.tdiv v2 (2 : Int))), ())))), (p0, ()))) fun y10 =>
 some ((y10.1.1, (y10.1.2.1, (y10.1.2.2.1, ()))), (y10.2.1, ())))
 else none) fun y11 =>
 (Option.bind (iterN (fun x => heapSort_s13 less x.1.1 x.1.2.1 x.1.2.2.1 x.2.1) fuelN ((y11.1.1, (y11.1.2.1, ((IntKind.i64.wrap (y11.1.2.2.1 - (1 : Int))), ()))), (y11.2.1, ()))) fun y28 =>
 some (y28.2.1, ())))

def breakPat_s5 {α : Type} (a1 : Int) (a6 : Int) (a7 : Int) (a8 : Int) (a9 : Int) (g0 : List α) (g7 : List Int) : Option (((Int × (Int × (Int × (Int × (Int × Unit))))) × (List α × (List Int × Unit))) ⊕ (Unit × (List α × Unit))) :=
 (Option.bind (show Option (((Int × (Int × (Int × (Int × (Int × Unit))))) × (List α × (List Int × Unit))) ⊕ (Unit × (List α × Unit))) from
 bif ((4 : Int) != 0) then
 let v7 := (IntKind.i64.wrap ((IntKind.i64.wrap (Int.tdiv a6 (4 : Int))) * (2 : Int)))
 let v8 := (IntKind.i64.wrap ((IntKind.i64.wrap (a1 + v7)) + (1 : Int)))
 bif (decide (a9 ≤ v8)) then
 some (.inl ((a1, (a6, (a7, (a8, (a9, ()))))), (g0, (g7, ()))))
 else
 some (.inr ((), (g0, ())))
 else none) fun y9 =>
 (match y9 with
 | .inl y9 =>
 (Option.bind (show Option ((Int × (Int × (Int × (Int × (Int × Unit))))) × (List α × (List Int × Unit))) from
 bif (onlyB y9.2.2.1.length y9.1.2.2.1 && true) then
 (Option.bind (xorNext y9.2.2.1) fun r11 =>
 let v12 := (IntKind.u64.wrap (((BitVec.ofInt IntKind.u64.bits r11.2.1 &&& BitVec.ofInt IntKind.u64.bits (IntKind.u64.wrap (y9.1.2.2.2.1 - (1 : Int)))).toNat : Int)))
 (Option.bind (show Option ((Int × (Int × (Int × (Int × (Int × (Int × Unit)))))) × (List α × (List Int × Unit))) from
 bif (decide ((IntKind.i64.wrap (v12)) ≥ y9.1.2.1)) then
 some ((y9.1.1, (y9.1.2.1, (y9.1.2.2.1, (y9.1.2.2.2.1, (y9.1.2.2.2.2.1, ((IntKind.i64.wrap ((IntKind.i64.wrap (v12)) - y9.1.2.1)), ())))))), (y9.2.1, (r11.1, ())))
 else
 some ((y9.1.1, (y9.1.2.1, (y9.1.2.2.1, (y9.1.2.2.2.1, (y9.1.2.2.2.2.1, ((IntKind.i64.wrap (v12)), ())))))), (y9.2.1, (r11.1, ())))) fun y14 =>
 (Option.bind (lk y14.2.1 (IntKind.i64.wrap (y14.1.1 + y14.1.2.2.2.2.2.1))) fun _x15 =>
 (Option.bind (lk y14.2.1 (IntKind.i64.wrap (y14.1.1 + y14.1.2.2.2.2.2.1))) fun x16 =>
 (Option.bind (lk y14.2.1 y14.1.2.2.2.2.1) fun _x17 =>
 (Option.bind (lk y14.2.1 y14.1.2.2.2.2.1) fun x18 =>
 (Option.bind (lk y14.2.1 y14.1.2.2.2.2.1) fun _x19 =>
 (Option.bind (lk y14.2.1 y14.1.2.2.2.2.1) fun x20 =>
 (Option.bind (lk (y14.2.1.set y14.1.2.2.2.2.1.toNat x16) (IntKind.i64.wrap (y14.1.1 + y14.1.2.2.2.2.2.1))) fun _x21 =>
 (Option.bind (lk (y14.2.1.set y14.1.2.2.2.2.1.toNat x16) (IntKind.i64.wrap (y14.1.1 + y14.1.2.2.2.2.2.1))) fun x22 =>
 let l23 := ((y14.2.1.set y14.1.2.2.2.2.1.toNat x16).set (IntKind.i64.wrap (y14.1.1 + y14.1.2.2.2.2.2.1)).toNat x18)
 some ((y14.1.1, (y14.1.2.1, (y14.1.2.2.1, (y14.1.2.2.2.1, (y14.1.2.2.2.2.1, ()))))), (l23, (y14.2.2.1, ())))))))))))))
 else none) fun y24 =>
 some (.inl ((y24.1.1, (y24.1.2.1, (y24.1.2.2.1, (y24.1.2.2.2.1, ((IntKind.i64.wrap (y24.1.2.2.2.2.1 + (1 : Int))), ()))))), (y24.2.1, (y24.2.2.1, ())))))
 | .inr y9 =>
 some (.inr ((), (y9.2.1, ())))))

def breakPat {α : Type} (p0 : List α) (p1 : Int) (p2 : Int) : Option (List α × Unit) :=
 bif (decide ((IntKind.i64.wrap (p2 - p1)) ≥ (8 : Int))) then
 (Option.bind (nextPow (IntKind.i64.wrap (p2 - p1))) fun r1 =>
 bif ((4 : Int) != 0) then
 let v2 := (IntKind.i64.wrap (Int.tdiv (IntKind.i64.wrap (p2 - p1)) (4 : Int)))
 let v3 := (IntKind.i64.wrap (p1 + (IntKind.i64.wrap (v2 * (2 : Int)))))
 (Option.bind (iterN (fun x => breakPat_s5 x.1.1 x.1.2.1 x.1.2.2.1 x.1.2.2.2.1 x.1.2.2.2.2.1 x.2.1 x.2.2.1) fuelN ((p1, ((IntKind.i64.wrap (p2 - p1)), ((0 : Int), (r1.2.1, ((IntKind.i64.wrap (v3 - (1 : Int))), ()))))), (p0, ([(IntKind.u64.wrap ((IntKind.i64.wrap (p2 - p1))))], ())))) fun y25 =>
 some (y25.2.1, ()))
 else none)
 else
 some (p0, ())

def order2 {α : Type} (less : α → α → Option (Unit × (Bool × Unit))) (p0 : List α) (p1 : Int) (p2 : Int) (p3 : List Int) : Option (List Int × (Int × (Int × Unit))) :=
 (Option.bind (show Option (((Int × (Int × (Int × Unit))) × (List Int × Unit)) ⊕ ((Int × (Int × (Int × Unit))) × (List Int × Unit))) from
 (Option.bind (lk p0 p2) fun x2 =>
 (Option.bind (lk p0 p1) fun x3 =>
 (Option.bind (less x2 x3) fun r4 =>
 bif r4.2.1 then
 (Option.bind (lk p3 (0 : Int)) fun x5 =>
 (Option.bind (lk p3 (0 : Int)) fun x6 =>
 some (.inl (((0 : Int), (p2, (p1, ()))), ((p3.set (0 : Int).toNat (IntKind.i64.wrap (x5 + (1 : Int)))), ())))))
 else
 some (.inr ((p1, (p2, ((0 : Int), ()))), (p3, ()))))))) fun y7 =>
 (match y7 with
 | .inl y7 =>
 bif onlyB y7.2.1.length y7.1.1 then
 some (y7.2.1, (y7.1.2.1, (y7.1.2.2.1, ())))
 else none
 | .inr y7 =>
 bif onlyB y7.2.1.length y7.1.2.2.1 then
 some (y7.2.1, (y7.1.1, (y7.1.2.1, ())))
 else none))

def median {α : Type} (less : α → α → Option (Unit × (Bool × Unit))) (p0 : List α) (p1 : Int) (p2 : Int) (p3 : Int) (p4 : List Int) : Option (List Int × (Int × Unit)) :=
 bif (onlyB p4.length (0 : Int) && true) then
 (Option.bind (order2 less p0 p1 p2 p4) fun r1 =>
 bif (onlyB r1.1.length (0 : Int) && true) then
 (Option.bind (order2 less p0 r1.2.2.1 p3 r1.1) fun r2 =>
 bif (onlyB r2.1.length (0 : Int) && true) then
 (Option.bind (order2 less p0 r1.2.1 r2.2.1 r2.1) fun r3 =>
 bif onlyB r3.1.length (0 : Int) then
 some (r3.1, (r3.2.2.1, ()))
 else none)
 else none)
 else none)
 else none

def medianAdj {α : Type} (less : α → α → Option (Unit × (Bool × Unit))) (p0 : List α) (p1 : Int) (p2 : List Int) : Option (List Int × (Int × Unit)) :=
 bif (onlyB p2.length (0 : Int) && true) then
 (Option.bind (median less p0 (IntKind.i64.wrap (p1 - (1 : Int))) p1 (IntKind.i64.wrap (p1 + (1 : Int))) p2) fun r1 =>
 bif onlyB r1.1.length (0 : Int) then
 some (r1.1, (r1.2.1, ()))
 else none)
 else none

def choosePiv {α : Type} (less : α → α → Option (Unit × (Bool × Unit))) (p0 : List α) (p1 : Int) (p2 : Int) : Option (Unit × (Int × (Int × Unit))) :=
 bif ((4 : Int) != 0) then
 let v1 := (IntKind.i64.wrap (Int.tdiv (IntKind.i64.wrap (p2 - p1)) (4 : Int)))
 let v2 := (IntKind.i64.wrap (p1 + (IntKind.i64.wrap (v1 * (1 : Int)))))
 bif ((4 : Int) != 0) then
 let v3 := (IntKind.i64.wrap (Int.tdiv (IntKind.i64.wrap (p2 - p1)) (4 : Int)))
 let v4 := (IntKind.i64.wrap (p1 + (IntKind.i64.wrap (v3 * (2 : Int)))))
 bif ((4 : Int) != 0) then
 let v5 := (IntKind.i64.wrap (Int.tdiv (IntKind.i64.wrap (p2 - p1)) (4 : Int)))
 let v6 := (IntKind.i64.wrap (p1 + (IntKind.i64.wrap (v5 * (3 : Int)))))
 (Option.bind (show Option ((Int × (Int × Unit)) × (List Int × Unit)) from
 bif (decide ((IntKind.i64.wrap (p2 - p1)) ≥ (8 : Int))) then
 (Option.bind (show Option ((List α × (Int × (Int × (Int × (Int × Unit))))) × (List Int × Unit)) from
 bif (decide ((IntKind.i64.wrap (p2 - p1)) ≥ (50 : Int))) then
 (Option.bind (medianAdj less p0 v2 [(0 : Int)]) fun r9 =>
 bif (onlyB r9.1.length (0 : Int) && true) then
 (Option.bind (medianAdj less p0 v4 r9.1) fun r10 =>
 bif (onlyB r10.1.length (0 : Int) && true) then
 (Option.bind (medianAdj less p0 v6 r10.1) fun r11 =>
 some ((p0, ((0 : Int), (r9.2.1, (r10.2.1, (r11.2.1, ()))))), (r11.1, ())))
 else none)
 else none)
 else
 some ((p0, ((0 : Int), (v2, (v4, (v6, ()))))), ([(0 : Int)], ()))) fun y12 =>
 bif (onlyB y12.2.1.length y12.1.2.1 && true) then
 (Option.bind (median less y12.1.1 y12.1.2.2.1 y12.1.2.2.2.1 y12.1.2.2.2.2.1 y12.2.1) fun r13 =>
 some ((y12.1.2.1, (r13.2.1, ())), (r13.1, ())))
 else none)
 else
 some (((0 : Int), (v4, ())), ([(0 : Int)], ()))) fun y14 =>
 (Option.bind (lk y14.2.1 y14.1.1) fun x15 =>
 bif (x15 == (0 : Int)) then
 some ((), (y14.1.2.1, ((1 : Int), ())))
 else
 bif (x15 == (12 : Int)) then
 some ((), (y14.1.2.1, ((2 : Int), ())))
 else
 some ((), (y14.1.2.1, ((0 : Int), ())))))
 else none
 else none
 else none

def revRange_s2 {α : Type} (a6 : Int) (a7 : Int) (g0 : List α) : Option (((Int × (Int × Unit)) × (List α × Unit)) ⊕ (Unit × (List α × Unit))) :=
 (Option.bind (show Option (((Int × (Int × Unit)) × (List α × Unit)) ⊕ (Unit × (List α × Unit))) from
 bif (decide (a6 < a7)) then
 some (.inl ((a6, (a7, ())), (g0, ())))
 else
 some (.inr ((), (g0, ())))) fun y4 =>
 (match y4 with
 | .inl y4 =>
 (Option.bind (lk y4.2.1 y4.1.2.1) fun _x5 =>
 (Option.bind (lk y4.2.1 y4.1.2.1) fun x6 =>
 (Option.bind (lk y4.2.1 y4.1.1) fun _x7 =>
 (Option.bind (lk y4.2.1 y4.1.1) fun x8 =>
 (Option.bind (lk y4.2.1 y4.1.1) fun _x9 =>
 (Option.bind (lk y4.2.1 y4.1.1) fun x10 =>
 (Option.bind (lk (y4.2.1.set y4.1.1.toNat x6) y4.1.2.1) fun _x11 =>
 (Option.bind (lk (y4.2.1.set y4.1.1.toNat x6) y4.1.2.1) fun x12 =>
 some (.inl (((IntKind.i64.wrap (y4.1.1 + (1 : Int))), ((IntKind.i64.wrap (y4.1.2.1 - (1 : Int))), ())), (((y4.2.1.set y4.1.1.toNat x6).set y4.1.2.1.toNat x8), ())))))))))))
 | .inr y4 =>
 some (.inr ((), (y4.2.1, ())))))

def revRange {α : Type} (p0 : List α) (p1 : Int) (p2 : Int) : Option (List α × Unit) :=
 (Option.bind (iterN (fun x => revRange_s2 x.1.1 x.1.2.1 x.2.1) fuelN ((p1, ((IntKind.i64.wrap (p2 - (1 : Int))), ())), (p0, ()))) fun y13 =>
 some (y13.2.1, ()))

def partIns_s8 {α : Type} (less : α → α → Option (Unit × (Bool × Unit))) (a1 : Int) (a2 : Int) (a7 : Int) (a8 : Int) (g0 : List α) : Option (((Int × (Int × (Int × (Int × Unit)))) × (List α × Unit)) ⊕ ((Int × (Int × (Int × (Int × Unit)))) × (List α × Unit))) :=
 (Option.bind (show Option (((Int × (Int × (Int × (Int × Unit)))) × (List α × Unit)) ⊕ ((Int × (Int × (Int × (Int × Unit)))) × (List α × Unit))) from
 bif (decide (a7 < a2)) then
 (Option.bind (lk g0 a7) fun _x10 =>
 (Option.bind (lk g0 a7) fun x11 =>
 (Option.bind (lk g0 (IntKind.i64.wrap (a7 - (1 : Int)))) fun _x12 =>
 (Option.bind (lk g0 (IntKind.i64.wrap (a7 - (1 : Int)))) fun x13 =>
 (Option.bind (less x11 x13) fun r14 =>
 bif (!r14.2.1) then
 some (.inl ((a1, (a2, (a7, (a8, ())))), (g0, ())))
 else
 some (.inr ((a1, (a2, (a7, (a8, ())))), (g0, ()))))))))
 else
 some (.inr ((a1, (a2, (a7, (a8, ())))), (g0, ())))) fun y15 =>
 (match y15 with
 | .inl y15 =>
 some (.inl ((y15.1.1, (y15.1.2.1, ((IntKind.i64.wrap (y15.1.2.2.1 + (1 : Int))), (y15.1.2.2.2.1, ())))), (y15.2.1, ())))
 | .inr y15 =>
 some (.inr ((y15.1.1, (y15.1.2.1, (y15.1.2.2.1, (y15.1.2.2.2.1, ())))), (y15.2.1, ())))))

def partIns_s35 {α : Type} (less : α → α → Option (Unit × (Bool × Unit))) (a1 : Int) (a2 : Int) (a7 : Int) (a8 : Int) (a9 : Int) (g0 : List α) : Option (((Int × (Int × (Int × (Int × (Int × Unit))))) × (List α × Unit)) ⊕ ((Int × (Int × (Int × (Int × Unit)))) × (List α × Unit))) :=
 (Option.bind (show Option (((Int × (Int × (Int × (Int × (Int × Unit))))) × (List α × Unit)) ⊕ ((Int × (Int × (Int × (Int × Unit)))) × (List α × Unit))) from
 bif (decide (a9 ≥ (1 : Int))) then
 some (.inl ((a1, (a2, (a7, (a8, (a9, ()))))), (g0, ())))
 else
 some (.inr ((a1, (a2, (a7, (a8, ())))), (g0, ())))) fun y37 =>
 (match y37 with
 | .inl y37 =>
 (Option.bind (show Option (((Int × (Int × (Int × (Int × Unit)))) × (List α × Unit)) ⊕ ((Int × (Int × (Int × (Int × (Int × Unit))))) × (List α × Unit))) from
 (Option.bind (show Option (((Int × (Int × (Int × (Int × Unit)))) × (List α × Unit)) ⊕ ((Int × (Int × (Int × (Int × (Int × Unit))))) × (List α × Unit))) from
 (Option.bind (lk y37.2.1 y37.1.2.2.2.2.1) fun _x40 =>
 (Option.bind (lk y37.2.1 y37.1.2.2.2.2.1) fun x41 =>
 (Option.bind (lk y37.2.1 (IntKind.i64.wrap (y37.1.2.2.2.2.1 - (1 : Int)))) fun _x42 =>
 (Option.bind (lk y37.2.1 (IntKind.i64.wrap (y37.1.2.2.2.2.1 - (1 : Int)))) fun x43 =>
 (Option.bind (less x41 x43) fun r44 =>
 bif (!r44.2.1) then
 some (.inl ((y37.1.1, (y37.1.2.1, (y37.1.2.2.1, (y37.1.2.2.2.1, ())))), (y37.2.1, ())))
 else
 some (.inr ((y37.1.1, (y37.1.2.1, (y37.1.2.2.1, (y37.1.2.2.2.1, (y37.1.2.2.2.2.1, ()))))), (y37.2.1, ()))))))))) fun y45 =>
 (match y45 with
 | .inl y45 =>
 some (.inl ((y45.1.1, (y45.1.2.1, (y45.1.2.2.1, (y45.1.2.2.2.1, ())))), (y45.2.1, ())))
 | .inr y45 =>
 (Option.bind (lk y45.2.1 (IntKind.i64.wrap (y45.1.2.2.2.2.1 - (1 : Int)))) fun _x46 =>
 (Option.bind (lk y45.2.1 (IntKind.i64.wrap (y45.1.2.2.2.2.1 - (1 : Int)))) fun x47 =>
 (Option.bind (lk y45.2.1 y45.1.2.2.2.2.1) fun _x48 =>
 (Option.bind (lk y45.2.1 y45.1.2.2.2.2.1) fun x49 =>
 (Option.bind (lk y45.2.1 y45.1.2.2.2.2.1) fun _x50 =>
 (Option.bind (lk y45.2.1 y45.1.2.2.2.2.1) fun x51 =>
 (Option.bind (lk (y45.2.1.set y45.1.2.2.2.2.1.toNat x47) (IntKind.i64.wrap (y45.1.2.2.2.2.1 - (1 : Int)))) fun _x52 =>
 (Option.bind (lk (y45.2.1.set y45.1.2.2.2.2.1.toNat x47) (IntKind.i64.wrap (y45.1.2.2.2.2.1 - (1 : Int)))) fun x53 =>
 let l54 := ((y45.2.1.set y45.1.2.2.2.2.1.toNat x47).set (IntKind.i64.wrap (y45.1.2.2.2.2.1 - (1 : Int))).toNat x49)
 some (.inr ((y45.1.1, (y45.1.2.1, (y45.1.2.2.1, (y45.1.2.2.2.1, (y45.1.2.2.2.2.1, ()))))), (l54, ())))))))))))))) fun y55 =>
 (match y55 with
 | .inl y55 =>
 some (.inr ((y55.1.1, (y55.1.2.1, (y55.1.2.2.1, (y55.1.2.2.2.1, ())))), (y55.2.1, ())))
 | .inr y55 =>
 some (.inl ((y55.1.1, (y55.1.2.1, (y55.1.2.2.1, (y55.1.2.2.2.1, ((IntKind.i64.wrap (y55.1.2.2.2.2.1 - (1 : Int))), ()))))), (y55.2.1, ())))))
 | .inr y37 =>
 some (.inr ((y37.1.1, (y37.1.2.1, (y37.1.2.2.1, (y37.1.2.2.2.1, ())))), (y37.2.1, ())))))

def partIns_s60 {α : Type} (less : α → α → Option (Unit × (Bool × Unit))) (a1 : Int) (a2 : Int) (a7 : Int) (a8 : Int) (a10 : Int) (g0 : List α) : Option (((Int × (Int × (Int × (Int × (Int × Unit))))) × (List α × Unit)) ⊕ ((Int × (Int × (Int × (Int × Unit)))) × (List α × Unit))) :=
 (Option.bind (show Option (((Int × (Int × (Int × (Int × (Int × Unit))))) × (List α × Unit)) ⊕ ((Int × (Int × (Int × (Int × Unit)))) × (List α × Unit))) from
 bif (decide (a10 < a2)) then
 some (.inl ((a1, (a2, (a7, (a8, (a10, ()))))), (g0, ())))
 else
 some (.inr ((a1, (a2, (a7, (a8, ())))), (g0, ())))) fun y62 =>
 (match y62 with
 | .inl y62 =>
 (Option.bind (show Option (((Int × (Int × (Int × (Int × Unit)))) × (List α × Unit)) ⊕ ((Int × (Int × (Int × (Int × (Int × Unit))))) × (List α × Unit))) from
 (Option.bind (show Option (((Int × (Int × (Int × (Int × Unit)))) × (List α × Unit)) ⊕ ((Int × (Int × (Int × (Int × (Int × Unit))))) × (List α × Unit))) from
 (Option.bind (lk y62.2.1 y62.1.2.2.2.2.1) fun _x65 =>
 (Option.bind (lk y62.2.1 y62.1.2.2.2.2.1) fun x66 =>
 (Option.bind (lk y62.2.1 (IntKind.i64.wrap (y62.1.2.2.2.2.1 - (1 : Int)))) fun _x67 =>
 (Option.bind (lk y62.2.1 (IntKind.i64.wrap (y62.1.2.2.2.2.1 - (1 : Int)))) fun x68 =>
 (Option.bind (less x66 x68) fun r69 =>
 bif (!r69.2.1) then
 some (.inl ((y62.1.1, (y62.1.2.1, (y62.1.2.2.1, (y62.1.2.2.2.1, ())))), (y62.2.1, ())))
 else
 some (.inr ((y62.1.1, (y62.1.2.1, (y62.1.2.2.1, (y62.1.2.2.2.1, (y62.1.2.2.2.2.1, ()))))), (y62.2.1, ()))))))))) fun y70 =>
 (match y70 with
 | .inl y70 =>
 some (.inl ((y70.1.1, (y70.1.2.1, (y70.1.2.2.1, (y70.1.2.2.2.1, ())))), (y70.2.1, ())))
 | .inr y70 =>
 (Option.bind (lk y70.2.1 (IntKind.i64.wrap (y70.1.2.2.2.2.1 - (1 : Int)))) fun _x71 =>
 (Option.bind (lk y70.2.1 (IntKind.i64.wrap (y70.1.2.2.2.2.1 - (1 : Int)))) fun x72 =>
 (Option.bind (lk y70.2.1 y70.1.2.2.2.2.1) fun _x73 =>
 (Option.bind (lk y70.2.1 y70.1.2.2.2.2.1) fun x74 =>
 (Option.bind (lk y70.2.1 y70.1.2.2.2.2.1) fun _x75 =>
 (Option.bind (lk y70.2.1 y70.1.2.2.2.2.1) fun x76 =>
 (Option.bind (lk (y70.2.1.set y70.1.2.2.2.2.1.toNat x72) (IntKind.i64.wrap (y70.1.2.2.2.2.1 - (1 : Int)))) fun _x77 =>
 (Option.bind (lk (y70.2.1.set y70.1.2.2.2.2.1.toNat x72) (IntKind.i64.wrap (y70.1.2.2.2.2.1 - (1 : Int)))) fun x78 =>
 let l79 := ((y70.2.1.set y70.1.2.2.2.2.1.toNat x72).set (IntKind.i64.wrap (y70.1.2.2.2.2.1 - (1 : Int))).toNat x74)
 some (.inr ((y70.1.1, (y70.1.2.1, (y70.1.2.2.1, (y70.1.2.2.2.1, (y70.1.2.2.2.2.1, ()))))), (l79, ())))))))))))))) fun y80 =>
 (match y80 with
 | .inl y80 =>
 some (.inr ((y80.1.1, (y80.1.2.1, (y80.1.2.2.1, (y80.1.2.2.2.1, ())))), (y80.2.1, ())))
 | .inr y80 =>
 some (.inl ((y80.1.1, (y80.1.2.1, (y80.1.2.2.1, (y80.1.2.2.2.1, ((IntKind.i64.wrap (y80.1.2.2.2.2.1 + (1 : Int))), ()))))), (y80.2.1, ())))))
 | .inr y62 =>
 some (.inr ((y62.1.1, (y62.1.2.1, (y62.1.2.2.1, (y62.1.2.2.2.1, ())))), (y62.2.1, ())))))

def partIns_s2 {α : Type} (less : α → α → Option (Unit × (Bool × Unit))) (a1 : Int) (a2 : Int) (a7 : Int) (a8 : Int) (g0 : List α) : Option (((Int × (Int × (Int × (Int × Unit)))) × (List α × Unit)) ⊕ (((Bool × Unit) × (List α × Unit)) ⊕ (Unit × (List α × Unit)))) :=
 (Option.bind (show Option (((Int × (Int × (Int × (Int × Unit)))) × (List α × Unit)) ⊕ (Unit × (List α × Unit))) from
 bif (decide (a8 < (5 : Int))) then
 some (.inl ((a1, (a2, (a7, (a8, ())))), (g0, ())))
 else
 some (.inr ((), (g0, ())))) fun y4 =>
 (match y4 with
 | .inl y4 =>
 (Option.bind (show Option (((Bool × Unit) × (List α × Unit)) ⊕ ((Int × (Int × (Int × (Int × Unit)))) × (List α × Unit))) from
 (Option.bind (show Option ((Int × (Int × (Int × (Int × Unit)))) × (List α × Unit)) from
 (Option.bind (iterN (fun x => partIns_s8 less x.1.1 x.1.2.1 x.1.2.2.1 x.1.2.2.2.1 x.2.1) fuelN ((y4.1.1, (y4.1.2.1, (y4.1.2.2.1, (y4.1.2.2.2.1, ())))), (y4.2.1, ()))) fun y16 =>
 some ((y16.1.1, (y16.1.2.1, (y16.1.2.2.1, (y16.1.2.2.2.1, ())))), (y16.2.1, ())))) fun y17 =>
 (Option.bind (show Option (((Bool × Unit) × (List α × Unit)) ⊕ ((Int × (Int × (Int × (Int × Unit)))) × (List α × Unit))) from
 bif (y17.1.2.2.1 == y17.1.2.1) then
 some (.inl ((true, ()), (y17.2.1, ())))
 else
 some (.inr ((y17.1.1, (y17.1.2.1, (y17.1.2.2.1, (y17.1.2.2.2.1, ())))), (y17.2.1, ())))) fun y19 =>
 (match y19 with
 | .inl y19 =>
 some (.inl ((y19.1.1, ()), (y19.2.1, ())))
 | .inr y19 =>
 (Option.bind (show Option (((Bool × Unit) × (List α × Unit)) ⊕ ((Int × (Int × (Int × (Int × Unit)))) × (List α × Unit))) from
 let v21 := (decide ((IntKind.i64.wrap (y19.1.2.1 - y19.1.1)) < (50 : Int)))
 bif v21 then
 some (.inl ((false, ()), (y19.2.1, ())))
 else
 some (.inr ((y19.1.1, (y19.1.2.1, (y19.1.2.2.1, (y19.1.2.2.2.1, ())))), (y19.2.1, ())))) fun y22 =>
 (match y22 with
 | .inl y22 =>
 some (.inl ((y22.1.1, ()), (y22.2.1, ())))
 | .inr y22 =>
 (Option.bind (lk y22.2.1 (IntKind.i64.wrap (y22.1.2.2.1 - (1 : Int)))) fun _x23 =>
 (Option.bind (lk y22.2.1 (IntKind.i64.wrap (y22.1.2.2.1 - (1 : Int)))) fun x24 =>
 (Option.bind (lk y22.2.1 y22.1.2.2.1) fun _x25 =>
 (Option.bind (lk y22.2.1 y22.1.2.2.1) fun x26 =>
 (Option.bind (lk y22.2.1 y22.1.2.2.1) fun _x27 =>
 (Option.bind (lk y22.2.1 y22.1.2.2.1) fun x28 =>
 (Option.bind (lk (y22.2.1.set y22.1.2.2.1.toNat x24) (IntKind.i64.wrap (y22.1.2.2.1 - (1 : Int)))) fun _x29 =>
 (Option.bind (lk (y22.2.1.set y22.1.2.2.1.toNat x24) (IntKind.i64.wrap (y22.1.2.2.1 - (1 : Int)))) fun x30 =>
 let l31 := ((y22.2.1.set y22.1.2.2.1.toNat x24).set (IntKind.i64.wrap (y22.1.2.2.1 - (1 : Int))).toNat x26)
 (Option.bind (show Option ((Int × (Int × (Int × (Int × Unit)))) × (List α × Unit)) from
 let v33 := (decide ((IntKind.i64.wrap (y22.1.2.2.1 - y22.1.1)) ≥ (2 : Int)))
 bif v33 then
 (Option.bind (iterN (fun x => partIns_s35 less x.1.1 x.1.2.1 x.1.2.2.1 x.1.2.2.2.1 x.1.2.2.2.2.1 x.2.1) fuelN ((y22.1.1, (y22.1.2.1, (y22.1.2.2.1, (y22.1.2.2.2.1, ((IntKind.i64.wrap (y22.1.2.2.1 - (1 : Int))), ()))))), (l31, ()))) fun y56 =>
 some ((y56.1.1, (y56.1.2.1, (y56.1.2.2.1, (y56.1.2.2.2.1, ())))), (y56.2.1, ())))
 else
 some ((y22.1.1, (y22.1.2.1, (y22.1.2.2.1, (y22.1.2.2.2.1, ())))), (l31, ()))) fun y57 =>
 let v58 := (decide ((IntKind.i64.wrap (y57.1.2.1 - y57.1.2.2.1)) ≥ (2 : Int)))
 bif v58 then
 (Option.bind (iterN (fun x => partIns_s60 less x.1.1 x.1.2.1 x.1.2.2.1 x.1.2.2.2.1 x.1.2.2.2.2.1 x.2.1) fuelN ((y57.1.1, (y57.1.2.1, (y57.1.2.2.1, (y57.1.2.2.2.1, ((IntKind.i64.wrap (y57.1.2.2.1 + (1 : Int))), ()))))), (y57.2.1, ()))) fun y81 =>
 some (.inr ((y81.1.1, (y81.1.2.1, (y81.1.2.2.1, (y81.1.2.2.2.1, ())))), (y81.2.1, ()))))
 else
 some (.inr ((y57.1.1, (y57.1.2.1, (y57.1.2.2.1, (y57.1.2.2.2.1, ())))), (y57.2.1, ())))))))))))))))))) fun y82 =>
 (match y82 with
 | .inl y82 =>
 some (.inr (.inl ((y82.1.1, ()), (y82.2.1, ()))))
 | .inr y82 =>
 some (.inl ((y82.1.1, (y82.1.2.1, (y82.1.2.2.1, ((IntKind.i64.wrap (y82.1.2.2.2.1 + (1 : Int))), ())))), (y82.2.1, ())))))
 | .inr y4 =>
 some (.inr (.inr ((), (y4.2.1, ()))))))

def partIns {α : Type} (less : α → α → Option (Unit × (Bool × Unit))) (p0 : List α) (p1 : Int) (p2 : Int) : Option (List α × (Bool × Unit)) :=
 (Option.bind (iterN (fun x => partIns_s2 less x.1.1 x.1.2.1 x.1.2.2.1 x.1.2.2.2.1 x.2.1) fuelN ((p1, (p2, ((IntKind.i64.wrap (p1 + (1 : Int))), ((0 : Int), ())))), (p0, ()))) fun y83 =>
 (match y83 with
 | .inl y83 =>
 some (y83.2.1, (y83.1.1, ()))
 | .inr y83 =>
 some (y83.2.1, (false, ()))))

def partEq_s13 {α : Type} (less : α → α → Option (Unit × (Bool × Unit))) (a1 : Int) (a9 : Int) (a10 : Int) (g0 : List α) : Option (((Int × (Int × (Int × Unit))) × (List α × Unit)) ⊕ ((Int × (Int × (Int × Unit))) × (List α × Unit))) :=
 (Option.bind (show Option (((Int × (Int × (Int × Unit))) × (List α × Unit)) ⊕ ((Int × (Int × (Int × Unit))) × (List α × Unit))) from
 bif (decide (a9 ≤ a10)) then
 (Option.bind (lk g0 a1) fun _x15 =>
 (Option.bind (lk g0 a1) fun x16 =>
 (Option.bind (lk g0 a9) fun _x17 =>
 (Option.bind (lk g0 a9) fun x18 =>
 (Option.bind (less x16 x18) fun r19 =>
 bif (!r19.2.1) then
 some (.inl ((a1, (a9, (a10, ()))), (g0, ())))
 else
 some (.inr ((a1, (a9, (a10, ()))), (g0, ()))))))))
 else
 some (.inr ((a1, (a9, (a10, ()))), (g0, ())))) fun y20 =>
 (match y20 with
 | .inl y20 =>
 some (.inl ((y20.1.1, ((IntKind.i64.wrap (y20.1.2.1 + (1 : Int))), (y20.1.2.2.1, ()))), (y20.2.1, ())))
 | .inr y20 =>
 some (.inr ((y20.1.1, (y20.1.2.1, (y20.1.2.2.1, ()))), (y20.2.1, ())))))

def partEq_s25 {α : Type} (less : α → α → Option (Unit × (Bool × Unit))) (a1 : Int) (a9 : Int) (a10 : Int) (g0 : List α) : Option (((Int × (Int × (Int × Unit))) × (List α × Unit)) ⊕ ((Int × (Int × (Int × Unit))) × (List α × Unit))) :=
 (Option.bind (show Option (((Int × (Int × (Int × Unit))) × (List α × Unit)) ⊕ ((Int × (Int × (Int × Unit))) × (List α × Unit))) from
 bif (decide (a9 ≤ a10)) then
 (Option.bind (lk g0 a1) fun _x27 =>
 (Option.bind (lk g0 a1) fun x28 =>
 (Option.bind (lk g0 a10) fun _x29 =>
 (Option.bind (lk g0 a10) fun x30 =>
 (Option.bind (less x28 x30) fun r31 =>
 bif r31.2.1 then
 some (.inl ((a1, (a9, (a10, ()))), (g0, ())))
 else
 some (.inr ((a1, (a9, (a10, ()))), (g0, ()))))))))
 else
 some (.inr ((a1, (a9, (a10, ()))), (g0, ())))) fun y32 =>
 (match y32 with
 | .inl y32 =>
 some (.inl ((y32.1.1, (y32.1.2.1, ((IntKind.i64.wrap (y32.1.2.2.1 - (1 : Int))), ()))), (y32.2.1, ())))
 | .inr y32 =>
 some (.inr ((y32.1.1, (y32.1.2.1, (y32.1.2.2.1, ()))), (y32.2.1, ())))))

def partEq_s10 {α : Type} (less : α → α → Option (Unit × (Bool × Unit))) (a1 : Int) (a9 : Int) (a10 : Int) (g0 : List α) : Option (((Int × (Int × (Int × Unit))) × (List α × Unit)) ⊕ ((Int × Unit) × (List α × Unit))) :=
 (Option.bind (show Option ((Int × (Int × (Int × Unit))) × (List α × Unit)) from
 (Option.bind (iterN (fun x => partEq_s13 less x.1.1 x.1.2.1 x.1.2.2.1 x.2.1) fuelN ((a1, (a9, (a10, ()))), (g0, ()))) fun y21 =>
 some ((y21.1.1, (y21.1.2.1, (y21.1.2.2.1, ()))), (y21.2.1, ())))) fun y22 =>
 (Option.bind (show Option ((Int × (Int × (Int × Unit))) × (List α × Unit)) from
 (Option.bind (iterN (fun x => partEq_s25 less x.1.1 x.1.2.1 x.1.2.2.1 x.2.1) fuelN ((y22.1.1, (y22.1.2.1, (y22.1.2.2.1, ()))), (y22.2.1, ()))) fun y33 =>
 some ((y33.1.1, (y33.1.2.1, (y33.1.2.2.1, ()))), (y33.2.1, ())))) fun y34 =>
 (Option.bind (show Option (((Int × Unit) × (List α × Unit)) ⊕ ((Int × (Int × (Int × Unit))) × (List α × Unit))) from
 bif (decide (y34.1.2.1 > y34.1.2.2.1)) then
 some (.inl ((y34.1.2.1, ()), (y34.2.1, ())))
 else
 some (.inr ((y34.1.1, (y34.1.2.1, (y34.1.2.2.1, ()))), (y34.2.1, ())))) fun y36 =>
 (match y36 with
 | .inl y36 =>
 some (.inr ((y36.1.1, ()), (y36.2.1, ())))
 | .inr y36 =>
 (Option.bind (lk y36.2.1 y36.1.2.2.1) fun _x37 =>
 (Option.bind (lk y36.2.1 y36.1.2.2.1) fun x38 =>
 (Option.bind (lk y36.2.1 y36.1.2.1) fun _x39 =>
 (Option.bind (lk y36.2.1 y36.1.2.1) fun x40 =>
 (Option.bind (lk y36.2.1 y36.1.2.1) fun _x41 =>
 (Option.bind (lk y36.2.1 y36.1.2.1) fun x42 =>
 (Option.bind (lk (y36.2.1.set y36.1.2.1.toNat x38) y36.1.2.2.1) fun _x43 =>
 (Option.bind (lk (y36.2.1.set y36.1.2.1.toNat x38) y36.1.2.2.1) fun x44 =>
 let l45 := ((y36.2.1.set y36.1.2.1.toNat x38).set y36.1.2.2.1.toNat x40)
 some (.inl ((y36.1.1, ((IntKind.i64.wrap (y36.1.2.1 + (1 : Int))), ((IntKind.i64.wrap (y36.1.2.2.1 - (1 : Int))), ()))), (l45, ())))))))))))))))

def partEq {α : Type} (less : α → α → Option (Unit × (Bool × Unit))) (p0 : List α) (p1 : Int) (p2 : Int) (p3 : Int) : Option (List α × (Int × Unit)) :=
 (Option.bind (lk p0 p3) fun _x1 =>
 (Option.bind (lk p0 p3) fun x2 =>
 (Option.bind (lk p0 p1) fun _x3 =>
 (Option.bind (lk p0 p1) fun x4 =>
 (Option.bind (lk p0 p1) fun _x5 =>
 (Option.bind (lk p0 p1) fun x6 =>
 (Option.bind (lk (p0.set p1.toNat x2) p3) fun _x7 =>
 (Option.bind (lk (p0.set p1.toNat x2) p3) fun x8 =>
 (Option.bind (iterN (fun x => partEq_s10 less x.1.1 x.1.2.1 x.1.2.2.1 x.2.1) fuelN ((p1, ((IntKind.i64.wrap (p1 + (1 : Int))), ((IntKind.i64.wrap (p2 - (1 : Int))), ()))), (((p0.set p1.toNat x2).set p3.toNat x4), ()))) fun y46 =>
 some (y46.2.1, (y46.1.1, ())))))))))))

def partition_s11 {α : Type} (less : α → α → Option (Unit × (Bool × Unit))) (a1 : Int) (a10 : Int) (a11 : Int) (g0 : List α) : Option (((Int × (Int × (Int × Unit))) × (List α × Unit)) ⊕ ((Int × (Int × (Int × Unit))) × (List α × Unit))) :=
 (Option.bind (show Option (((Int × (Int × (Int × Unit))) × (List α × Unit)) ⊕ ((Int × (Int × (Int × Unit))) × (List α × Unit))) from
 bif (decide (a10 ≤ a11)) then
 (Option.bind (lk g0 a10) fun _x13 =>
 (Option.bind (lk g0 a10) fun x14 =>
 (Option.bind (lk g0 a1) fun _x15 =>
 (Option.bind (lk g0 a1) fun x16 =>
 (Option.bind (less x14 x16) fun r17 =>
 bif r17.2.1 then
 some (.inl ((a1, (a10, (a11, ()))), (g0, ())))
 else
 some (.inr ((a1, (a10, (a11, ()))), (g0, ()))))))))
 else
 some (.inr ((a1, (a10, (a11, ()))), (g0, ())))) fun y18 =>
 (match y18 with
 | .inl y18 =>
 some (.inl ((y18.1.1, ((IntKind.i64.wrap (y18.1.2.1 + (1 : Int))), (y18.1.2.2.1, ()))), (y18.2.1, ())))
 | .inr y18 =>
 some (.inr ((y18.1.1, (y18.1.2.1, (y18.1.2.2.1, ()))), (y18.2.1, ())))))

def partition_s23 {α : Type} (less : α → α → Option (Unit × (Bool × Unit))) (a1 : Int) (a10 : Int) (a11 : Int) (g0 : List α) : Option (((Int × (Int × (Int × Unit))) × (List α × Unit)) ⊕ ((Int × (Int × (Int × Unit))) × (List α × Unit))) :=
 (Option.bind (show Option (((Int × (Int × (Int × Unit))) × (List α × Unit)) ⊕ ((Int × (Int × (Int × Unit))) × (List α × Unit))) from
 bif (decide (a10 ≤ a11)) then
 (Option.bind (lk g0 a11) fun _x25 =>
 (Option.bind (lk g0 a11) fun x26 =>
 (Option.bind (lk g0 a1) fun _x27 =>
 (Option.bind (lk g0 a1) fun x28 =>
 (Option.bind (less x26 x28) fun r29 =>
 bif (!r29.2.1) then
 some (.inl ((a1, (a10, (a11, ()))), (g0, ())))
 else
 some (.inr ((a1, (a10, (a11, ()))), (g0, ()))))))))
 else
 some (.inr ((a1, (a10, (a11, ()))), (g0, ())))) fun y30 =>
 (match y30 with
 | .inl y30 =>
 some (.inl ((y30.1.1, (y30.1.2.1, ((IntKind.i64.wrap (y30.1.2.2.1 - (1 : Int))), ()))), (y30.2.1, ())))
 | .inr y30 =>
 some (.inr ((y30.1.1, (y30.1.2.1, (y30.1.2.2.1, ()))), (y30.2.1, ())))))

def partition_s57 {α : Type} (less : α → α → Option (Unit × (Bool × Unit))) (a1 : Int) (a10 : Int) (a11 : Int) (g0 : List α) : Option (((Int × (Int × (Int × Unit))) × (List α × Unit)) ⊕ ((Int × (Int × (Int × Unit))) × (List α × Unit))) :=
 (Option.bind (show Option (((Int × (Int × (Int × Unit))) × (List α × Unit)) ⊕ ((Int × (Int × (Int × Unit))) × (List α × Unit))) from
 bif (decide (a10 ≤ a11)) then
 (Option.bind (lk g0 a10) fun _x59 =>
 (Option.bind (lk g0 a10) fun x60 =>
 (Option.bind (lk g0 a1) fun _x61 =>
 (Option.bind (lk g0 a1) fun x62 =>
 (Option.bind (less x60 x62) fun r63 =>
 bif r63.2.1 then
 some (.inl ((a1, (a10, (a11, ()))), (g0, ())))
 else
 some (.inr ((a1, (a10, (a11, ()))), (g0, ()))))))))
 else
 some (.inr ((a1, (a10, (a11, ()))), (g0, ())))) fun y64 =>
 (match y64 with
 | .inl y64 =>
 some (.inl ((y64.1.1, ((IntKind.i64.wrap (y64.1.2.1 + (1 : Int))), (y64.1.2.2.1, ()))), (y64.2.1, ())))
 | .inr y64 =>
 some (.inr ((y64.1.1, (y64.1.2.1, (y64.1.2.2.1, ()))), (y64.2.1, ())))))

def partition_s69 {α : Type} (less : α → α → Option (Unit × (Bool × Unit))) (a1 : Int) (a10 : Int) (a11 : Int) (g0 : List α) : Option (((Int × (Int × (Int × Unit))) × (List α × Unit)) ⊕ ((Int × (Int × (Int × Unit))) × (List α × Unit))) :=
 (Option.bind (show Option (((Int × (Int × (Int × Unit))) × (List α × Unit)) ⊕ ((Int × (Int × (Int × Unit))) × (List α × Unit))) from
 bif (decide (a10 ≤ a11)) then
 (Option.bind (lk g0 a11) fun _x71 =>
 (Option.bind (lk g0 a11) fun x72 =>
 (Option.bind (lk g0 a1) fun _x73 =>
 (Option.bind (lk g0 a1) fun x74 =>
 (Option.bind (less x72 x74) fun r75 =>
 bif (!r75.2.1) then
 some (.inl ((a1, (a10, (a11, ()))), (g0, ())))
 else
 some (.inr ((a1, (a10, (a11, ()))), (g0, ()))))))))
 else
 some (.inr ((a1, (a10, (a11, ()))), (g0, ())))) fun y76 =>
 (match y76 with
 | .inl y76 =>
 some (.inl ((y76.1.1, (y76.1.2.1, ((IntKind.i64.wrap (y76.1.2.2.1 - (1 : Int))), ()))), (y76.2.1, ())))
 | .inr y76 =>
 some (.inr ((y76.1.1, (y76.1.2.1, (y76.1.2.2.1, ()))), (y76.2.1, ())))))

def partition_s54 {α : Type} (less : α → α → Option (Unit × (Bool × Unit))) (a1 : Int) (a10 : Int) (a11 : Int) (g0 : List α) : Option (((Int × (Int × (Int × Unit))) × (List α × Unit)) ⊕ ((Int × (Int × Unit)) × (List α × Unit))) :=
 (Option.bind (show Option ((Int × (Int × (Int × Unit))) × (List α × Unit)) from
 (Option.bind (iterN (fun x => partition_s57 less x.1.1 x.1.2.1 x.1.2.2.1 x.2.1) fuelN ((a1, (a10, (a11, ()))), (g0, ()))) fun y65 =>
 some ((y65.1.1, (y65.1.2.1, (y65.1.2.2.1, ()))), (y65.2.1, ())))) fun y66 =>
 (Option.bind (show Option ((Int × (Int × (Int × Unit))) × (List α × Unit)) from
 (Option.bind (iterN (fun x => partition_s69 less x.1.1 x.1.2.1 x.1.2.2.1 x.2.1) fuelN ((y66.1.1, (y66.1.2.1, (y66.1.2.2.1, ()))), (y66.2.1, ()))) fun y77 =>
 some ((y77.1.1, (y77.1.2.1, (y77.1.2.2.1, ()))), (y77.2.1, ())))) fun y78 =>
 (Option.bind (show Option (((Int × (Int × Unit)) × (List α × Unit)) ⊕ ((Int × (Int × (Int × Unit))) × (List α × Unit))) from
 bif (decide (y78.1.2.1 > y78.1.2.2.1)) then
 some (.inl ((y78.1.1, (y78.1.2.2.1, ())), (y78.2.1, ())))
 else
 some (.inr ((y78.1.1, (y78.1.2.1, (y78.1.2.2.1, ()))), (y78.2.1, ())))) fun y80 =>
 (match y80 with
 | .inl y80 =>
 some (.inr ((y80.1.1, (y80.1.2.1, ())), (y80.2.1, ())))
 | .inr y80 =>
 (Option.bind (lk y80.2.1 y80.1.2.2.1) fun _x81 =>
 (Option.bind (lk y80.2.1 y80.1.2.2.1) fun x82 =>
 (Option.bind (lk y80.2.1 y80.1.2.1) fun _x83 =>
 (Option.bind (lk y80.2.1 y80.1.2.1) fun x84 =>
 (Option.bind (lk y80.2.1 y80.1.2.1) fun _x85 =>
 (Option.bind (lk y80.2.1 y80.1.2.1) fun x86 =>
 (Option.bind (lk (y80.2.1.set y80.1.2.1.toNat x82) y80.1.2.2.1) fun _x87 =>
 (Option.bind (lk (y80.2.1.set y80.1.2.1.toNat x82) y80.1.2.2.1) fun x88 =>
 let l89 := ((y80.2.1.set y80.1.2.1.toNat x82).set y80.1.2.2.1.toNat x84)
 some (.inl ((y80.1.1, ((IntKind.i64.wrap (y80.1.2.1 + (1 : Int))), ((IntKind.i64.wrap (y80.1.2.2.1 - (1 : Int))), ()))), (l89, ())))))))))))))))

def partition {α : Type} (less : α → α → Option (Unit × (Bool × Unit))) (p0 : List α) (p1 : Int) (p2 : Int) (p3 : Int) : Option (List α × (Int × (Bool × Unit))) :=
 (Option.bind (lk p0 p3) fun _x1 =>
 (Option.bind (lk p0 p3) fun x2 =>
 (Option.bind (lk p0 p1) fun _x3 =>
 (Option.bind (lk p0 p1) fun x4 =>
 (Option.bind (lk p0 p1) fun _x5 =>
 (Option.bind (lk p0 p1) fun x6 =>
 (Option.bind (lk (p0.set p1.toNat x2) p3) fun _x7 =>
 (Option.bind (lk (p0.set p1.toNat x2) p3) fun x8 =>
 (Option.bind (show Option ((Int × (Int × (Int × Unit))) × (List α × Unit)) from
 (Option.bind (iterN (fun x => partition_s11 less x.1.1 x.1.2.1 x.1.2.2.1 x.2.1) fuelN ((p1, ((IntKind.i64.wrap (p1 + (1 : Int))), ((IntKind.i64.wrap (p2 - (1 : Int))), ()))), (((p0.set p1.toNat x2).set p3.toNat x4), ()))) fun y19 =>
 some ((y19.1.1, (y19.1.2.1, (y19.1.2.2.1, ()))), (y19.2.1, ())))) fun y20 =>
 (Option.bind (show Option ((Int × (Int × (Int × Unit))) × (List α × Unit)) from
 (Option.bind (iterN (fun x => partition_s23 less x.1.1 x.1.2.1 x.1.2.2.1 x.2.1) fuelN ((y20.1.1, (y20.1.2.1, (y20.1.2.2.1, ()))), (y20.2.1, ()))) fun y31 =>
 some ((y31.1.1, (y31.1.2.1, (y31.1.2.2.1, ()))), (y31.2.1, ())))) fun y32 =>
 (Option.bind (show Option (((Int × (Bool × Unit)) × (List α × Unit)) ⊕ ((Int × (Int × (Int × Unit))) × (List α × Unit))) from
 bif (decide (y32.1.2.1 > y32.1.2.2.1)) then
 (Option.bind (lk y32.2.1 y32.1.1) fun _x34 =>
 (Option.bind (lk y32.2.1 y32.1.1) fun x35 =>
 (Option.bind (lk y32.2.1 y32.1.2.2.1) fun _x36 =>
 (Option.bind (lk y32.2.1 y32.1.2.2.1) fun x37 =>
 (Option.bind (lk y32.2.1 y32.1.2.2.1) fun _x38 =>
 (Option.bind (lk y32.2.1 y32.1.2.2.1) fun x39 =>
 (Option.bind (lk (y32.2.1.set y32.1.2.2.1.toNat x35) y32.1.1) fun _x40 =>
 (Option.bind (lk (y32.2.1.set y32.1.2.2.1.toNat x35) y32.1.1) fun x41 =>
 some (.inl ((y32.1.2.2.1, (true, ())), (((y32.2.1.set y32.1.2.2.1.toNat x35).set y32.1.1.toNat x37), ())))))))))))
 else
 some (.inr ((y32.1.1, (y32.1.2.1, (y32.1.2.2.1, ()))), (y32.2.1, ())))) fun y42 =>
 (match y42 with
 | .inl y42 =>
 some (y42.2.1, (y42.1.1, (y42.1.2.1, ())))
 | .inr y42 =>
 (Option.bind (lk y42.2.1 y42.1.2.2.1) fun _x43 =>
 (Option.bind (lk y42.2.1 y42.1.2.2.1) fun x44 =>
 (Option.bind (lk y42.2.1 y42.1.2.1) fun _x45 =>
 (Option.bind (lk y42.2.1 y42.1.2.1) fun x46 =>
 (Option.bind (lk y42.2.1 y42.1.2.1) fun _x47 =>
 (Option.bind (lk y42.2.1 y42.1.2.1) fun x48 =>
 (Option.bind (lk (y42.2.1.set y42.1.2.1.toNat x44) y42.1.2.2.1) fun _x49 =>
 (Option.bind (lk (y42.2.1.set y42.1.2.1.toNat x44) y42.1.2.2.1) fun x50 =>
 let l51 := ((y42.2.1.set y42.1.2.1.toNat x44).set y42.1.2.2.1.toNat x46)
 (Option.bind (show Option ((Int × (Int × Unit)) × (List α × Unit)) from
 (Option.bind (iterN (fun x => partition_s54 less x.1.1 x.1.2.1 x.1.2.2.1 x.2.1) fuelN ((y42.1.1, ((IntKind.i64.wrap (y42.1.2.1 + (1 : Int))), ((IntKind.i64.wrap (y42.1.2.2.1 - (1 : Int))), ()))), (l51, ()))) fun y90 =>
 some ((y90.1.1, (y90.1.2.1, ())), (y90.2.1, ())))) fun y91 =>
 (Option.bind (lk y91.2.1 y91.1.1) fun _x92 =>
 (Option.bind (lk y91.2.1 y91.1.1) fun x93 =>
 (Option.bind (lk y91.2.1 y91.1.2.1) fun _x94 =>
 (Option.bind (lk y91.2.1 y91.1.2.1) fun x95 =>
 (Option.bind (lk y91.2.1 y91.1.2.1) fun _x96 =>
 (Option.bind (lk y91.2.1 y91.1.2.1) fun x97 =>
 (Option.bind (lk (y91.2.1.set y91.1.2.1.toNat x93) y91.1.1) fun _x98 =>
 (Option.bind (lk (y91.2.1.set y91.1.2.1.toNat x93) y91.1.1) fun x99 =>
 some (((y91.2.1.set y91.1.2.1.toNat x93).set y91.1.1.toNat x95), (y91.1.2.1, (false, ()))))))))))))))))))))))))))))))))

def pdq0_s2 {α : Type} (less : α → α → Option (Unit × (Bool × Unit))) (rec : List α → Int → Int → Int → Option (List α × Unit)) (a1 : Int) (a2 : Int) (a3 : Int) (a8 : Bool) (a9 : Bool) (g0 : List α) : Option (((Int × (Int × (Int × (Bool × (Bool × Unit))))) × (List α × Unit)) ⊕ (Unit × (List α × Unit))) :=
 (Option.bind (show Option ((Unit × (List α × Unit)) ⊕ ((Int × (Int × (Int × (Bool × (Bool × (Int × Unit)))))) × (List α × Unit))) from
 bif (decide ((IntKind.i64.wrap (a2 - a1)) ≤ (12 : Int))) then
 (Option.bind (insSort less g0 a1 a2) fun r4 =>
 some (.inl ((), (r4.1, ()))))
 else
 some (.inr ((a1, (a2, (a3, (a8, (a9, ((IntKind.i64.wrap (a2 - a1)), ())))))), (g0, ())))) fun y5 =>
 (match y5 with
 | .inl y5 =>
 some (.inr ((), (y5.2.1, ())))
 | .inr y5 =>
 (Option.bind (show Option ((Unit × (List α × Unit)) ⊕ ((Int × (Int × (Int × (Bool × (Bool × (Int × Unit)))))) × (List α × Unit))) from
 bif (y5.1.2.2.1 == (0 : Int)) then
 (Option.bind (heapSort less y5.2.1 y5.1.1 y5.1.2.1) fun r7 =>
 some (.inl ((), (r7.1, ()))))
 else
 some (.inr ((y5.1.1, (y5.1.2.1, (y5.1.2.2.1, (y5.1.2.2.2.1, (y5.1.2.2.2.2.1, (y5.1.2.2.2.2.2.1, ())))))), (y5.2.1, ())))) fun y8 =>
 (match y8 with
 | .inl y8 =>
 some (.inr ((), (y8.2.1, ())))
 | .inr y8 =>
 (Option.bind (show Option ((Int × (Int × (Int × (Bool × (Bool × (Int × Unit)))))) × (List α × Unit)) from
 bif (!y8.1.2.2.2.1) then
 (Option.bind (breakPat y8.2.1 y8.1.1 y8.1.2.1) fun r10 =>
 some ((y8.1.1, (y8.1.2.1, ((IntKind.i64.wrap (y8.1.2.2.1 - (1 : Int))), (y8.1.2.2.2.1, (y8.1.2.2.2.2.1, (y8.1.2.2.2.2.2.1, ())))))), (r10.1, ())))
 else
 some ((y8.1.1, (y8.1.2.1, (y8.1.2.2.1, (y8.1.2.2.2.1, (y8.1.2.2.2.2.1, (y8.1.2.2.2.2.2.1, ())))))), (y8.2.1, ()))) fun y11 =>
 (Option.bind (choosePiv less y11.2.1 y11.1.1 y11.1.2.1) fun r12 =>
 (Option.bind (show Option ((Int × (Int × (Int × (Bool × (Bool × (Int × (Int × (Int × Unit)))))))) × (List α × Unit)) from
 bif (r12.2.2.1 == (2 : Int)) then
 (Option.bind (revRange y11.2.1 y11.1.1 y11.1.2.1) fun r14 =>
 let v15 := (IntKind.i64.wrap ((IntKind.i64.wrap (y11.1.2.1 - (1 : Int))) - (IntKind.i64.wrap (r12.2.1 - y11.1.1))))
 some ((y11.1.1, (y11.1.2.1, (y11.1.2.2.1, (y11.1.2.2.2.1, (y11.1.2.2.2.2.1, (y11.1.2.2.2.2.2.1, (v15, ((1 : Int), ())))))))), (r14.1, ())))
 else
 some ((y11.1.1, (y11.1.2.1, (y11.1.2.2.1, (y11.1.2.2.2.1, (y11.1.2.2.2.2.1, (y11.1.2.2.2.2.2.1, (r12.2.1, (r12.2.2.1, ())))))))), (y11.2.1, ()))) fun y16 =>
 (Option.bind (show Option ((Unit × (List α × Unit)) ⊕ ((Int × (Int × (Int × (Bool × (Bool × (Int × (Int × Unit))))))) × (List α × Unit))) from
 (Option.bind (show Option ((Int × (Int × (Int × (Bool × (Bool × (Int × (Int × (Bool × Unit)))))))) × (List α × Unit)) from
 bif y16.1.2.2.2.1 then
 bif y16.1.2.2.2.2.1 then
 some ((y16.1.1, (y16.1.2.1, (y16.1.2.2.1, (y16.1.2.2.2.1, (y16.1.2.2.2.2.1, (y16.1.2.2.2.2.2.1, (y16.1.2.2.2.2.2.2.1, ((y16.1.2.2.2.2.2.2.2.1 == (1 : Int)), ())))))))), (y16.2.1, ()))
 else
 some ((y16.1.1, (y16.1.2.1, (y16.1.2.2.1, (y16.1.2.2.2.1, (y16.1.2.2.2.2.1, (y16.1.2.2.2.2.2.1, (y16.1.2.2.2.2.2.2.1, (false, ())))))))), (y16.2.1, ()))
 else
 some ((y16.1.1, (y16.1.2.1, (y16.1.2.2.1, (y16.1.2.2.2.1, (y16.1.2.2.2.2.1, (y16.1.2.2.2.2.2.1, (y16.1.2.2.2.2.2.2.1, (false, ())))))))), (y16.2.1, ()))) fun y19 =>
 bif y19.1.2.2.2.2.2.2.2.1 then
 (Option.bind (partIns less y19.2.1 y19.1.1 y19.1.2.1) fun r20 =>
 bif r20.2.1 then
 some (.inl ((), (r20.1, ())))
 else
 some (.inr ((y19.1.1, (y19.1.2.1, (y19.1.2.2.1, (y19.1.2.2.2.1, (y19.1.2.2.2.2.1, (y19.1.2.2.2.2.2.1, (y19.1.2.2.2.2.2.2.1, ()))))))), (r20.1, ()))))
 else
 some (.inr ((y19.1.1, (y19.1.2.1, (y19.1.2.2.1, (y19.1.2.2.2.1, (y19.1.2.2.2.2.1, (y19.1.2.2.2.2.2.1, (y19.1.2.2.2.2.2.2.1, ()))))))), (y19.2.1, ()))))) fun y21 =>
 (match y21 with
 | .inl y21 =>
 some (.inr ((), (y21.2.1, ())))
 | .inr y21 =>
 (Option.bind (show Option (((Int × (Int × (Int × (Bool × (Bool × Unit))))) × (List α × Unit)) ⊕ ((Int × (Int × (Int × (Int × (Int × Unit))))) × (List α × Unit))) from
 (Option.bind (show Option ((Int × (Int × (Int × (Bool × (Bool × (Int × (Int × (Bool × Unit)))))))) × (List α × Unit)) from
 bif (decide (y21.1.1 > (0 : Int))) then
 (Option.bind (lk y21.2.1 (IntKind.i64.wrap (y21.1.1 - (1 : Int)))) fun _x24 =>
 (Option.bind (lk y21.2.1 (IntKind.i64.wrap (y21.1.1 - (1 : Int)))) fun x25 =>
 (Option.bind (lk y21.2.1 y21.1.2.2.2.2.2.2.1) fun _x26 =>
 (Option.bind (lk y21.2.1 y21.1.2.2.2.2.2.2.1) fun x27 =>
 (Option.bind (less x25 x27) fun r28 =>
 some ((y21.1.1, (y21.1.2.1, (y21.1.2.2.1, (y21.1.2.2.2.1, (y21.1.2.2.2.2.1, (y21.1.2.2.2.2.2.1, (y21.1.2.2.2.2.2.2.1, ((!r28.2.1), ())))))))), (y21.2.1, ())))))))
 else
 some ((y21.1.1, (y21.1.2.1, (y21.1.2.2.1, (y21.1.2.2.2.1, (y21.1.2.2.2.2.1, (y21.1.2.2.2.2.2.1, (y21.1.2.2.2.2.2.2.1, (false, ())))))))), (y21.2.1, ()))) fun y29 =>
 bif y29.1.2.2.2.2.2.2.2.1 then
 (Option.bind (partEq less y29.2.1 y29.1.1 y29.1.2.1 y29.1.2.2.2.2.2.2.1) fun r30 =>
 some (.inl ((r30.2.1, (y29.1.2.1, (y29.1.2.2.1, (y29.1.2.2.2.1, (y29.1.2.2.2.2.1, ()))))), (r30.1, ()))))
 else
 some (.inr ((y29.1.1, (y29.1.2.1, (y29.1.2.2.1, (y29.1.2.2.2.2.2.1, (y29.1.2.2.2.2.2.2.1, ()))))), (y29.2.1, ()))))) fun y31 =>
 (match y31 with
 | .inl y31 =>
 some (.inl ((y31.1.1, (y31.1.2.1, (y31.1.2.2.1, (y31.1.2.2.2.1, (y31.1.2.2.2.2.1, ()))))), (y31.2.1, ())))
 | .inr y31 =>
 (Option.bind (partition less y31.2.1 y31.1.1 y31.1.2.1 y31.1.2.2.2.2.1) fun r32 =>
 bif ((8 : Int) != 0) then
 let v33 := (decide ((IntKind.i64.wrap (r32.2.1 - y31.1.1)) < (IntKind.i64.wrap (y31.1.2.1 - r32.2.1))))
 bif v33 then
 let v34 := (decide ((IntKind.i64.wrap (r32.2.1 - y31.1.1)) ≥ (IntKind.i64.wrap (Int.tdiv y31.1.2.2.2.1 (8 : Int)))))
 (Option.bind (rec r32.1 y31.1.1 r32.2.1 y31.1.2.2.1) fun r35 =>
 some (.inl (((IntKind.i64.wrap (r32.2.1 + (1 : Int))), (y31.1.2.1, (y31.1.2.2.1, (v34, (r32.2.2.1, ()))))), (r35.1, ()))))
 else
 let v36 := (decide ((IntKind.i64.wrap (y31.1.2.1 - r32.2.1)) ≥ (IntKind.i64.wrap (Int.tdiv y31.1.2.2.2.1 (8 : Int)))))
 (Option.bind (rec r32.1 (IntKind.i64.wrap (r32.2.1 + (1 : Int))) y31.1.2.1 y31.1.2.2.1) fun r37 =>
 some (.inl ((y31.1.1, (r32.2.1, (y31.1.2.2.1, (v36, (r32.2.2.1, ()))))), (r37.1, ()))))
 else none))))))))))))

def pdq0 {α : Type} (less : α → α → Option (Unit × (Bool × Unit))) (rec : List α → Int → Int → Int → Option (List α × Unit)) (p0 : List α) (p1 : Int) (p2 : Int) (p3 : Int) : Option (List α × Unit) :=
 (Option.bind (iterN (fun x => pdq0_s2 less rec x.1.1 x.1.2.1 x.1.2.2.1 x.1.2.2.2.1 x.1.2.2.2.2.1 x.2.1) fuelN ((p1, (p2, (p3, (true, (true, ()))))), (p0, ()))) fun y38 =>
 some (y38.2.1, ()))

def sortG {α : Type} (rec : List α → Int → Int → Int → Option (List α × Unit)) (p0 : List α) : Option (List α × Unit) :=
 (Option.bind (bitsLen (IntKind.u64.wrap ((p0.length : Int)))) fun r1 =>
 (Option.bind (rec p0 (0 : Int) (p0.length : Int) r1.2.1) fun r2 =>
 some (r2.1, ())))

end
end Go.Vs.Srt
