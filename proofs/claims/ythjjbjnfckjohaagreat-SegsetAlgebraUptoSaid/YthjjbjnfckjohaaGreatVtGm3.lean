/- The sweep over two sets, for any of the four. -/
import Derived.Test.YthjjbjnfckjohaaGreatVtSg1
set_option linter.unusedVariables false
set_option maxRecDepth 100000
namespace Go.Vt.Sg
noncomputable section
open Go Go.Vt

def runG_s6 (kf : Bool → Bool → Option (Unit × (Bool × Unit))) (a1 : List (Int × Int)) (a2 : List (Int × Int)) (a7 : List Int) (a21 : List (Int × Int)) (a22 : Int) (a23 : Int) : Option ((List (Int × Int) × (List (Int × Int) × (Unit × (List Int × (List (Int × Int) × (Int × (Int × Unit))))))) ⊕ (List (Int × Int) × (List (Int × Int) × (Unit × (List Int × Unit))))) :=
 bif (decide (a23 < a22)) then
 (Option.bind (lk a21 a23) fun _x7 =>
 (Option.bind (lk a21 a23) fun x8 =>
 bif (roomOk (a7.length + [x8.1, (IntKind.i32.wrap (x8.2 + (1 : Int)))].length) 4) then
 some (.inl (a1, (a2, ((), ((a7 ++ [x8.1, (IntKind.i32.wrap (x8.2 + (1 : Int)))]), (a21, (a22, ((IntKind.i64.wrap (a23 + (1 : Int))), ()))))))))
 else none))
 else
 some (.inr (a1, (a2, ((), (a7, ())))))

def runG_s20 (kf : Bool → Bool → Option (Unit × (Bool × Unit))) (a1 : List (Int × Int)) (a2 : List (Int × Int)) (a7 : List Int) (a10 : List (Int × Int)) (a11 : Int) (a12 : Int) (a44 : (Nat × Nat)) (a45 : Int) (a46 : Int) : Option ((List (Int × Int) × (List (Int × Int) × (Unit × (List Int × (List (Int × Int) × (Int × (Int × ((Nat × Nat) × (Int × (Int × Unit)))))))))) ⊕ (List (Int × Int) × (List (Int × Int) × (Unit × (List Int × (List (Int × Int) × (Int × (Int × ((Nat × Nat) × (Int × (Int × Unit))))))))))) :=
 (Option.bind (show Option ((List (Int × Int) × (List (Int × Int) × (Unit × (List Int × (List (Int × Int) × (Int × (Int × ((Nat × Nat) × (Int × (Int × Unit)))))))))) ⊕ (List (Int × Int) × (List (Int × Int) × (Unit × (List Int × (List (Int × Int) × (Int × (Int × ((Nat × Nat) × (Int × (Int × Unit))))))))))) from
 bif (decide ((a1.length : Int) > (0 : Int))) then
 (Option.bind (lk a1 (0 : Int)) fun x22 =>
 bif (decide (x22.2 < a12)) then
 some (.inl (a1, (a2, ((), (a7, (a10, (a11, (a12, (a44, (a45, (a46, ())))))))))))
 else
 some (.inr (a1, (a2, ((), (a7, (a10, (a11, (a12, (a44, (a45, (a46, ()))))))))))))
 else
 some (.inr (a1, (a2, ((), (a7, (a10, (a11, (a12, (a44, (a45, (a46, ())))))))))))) fun y23 =>
 (match y23 with
 | .inl y23 =>
 bif (inB (1 : Int) (y23.1.length : Int) y23.1.length) then
 some (.inl ((cut y23.1 (1 : Int) (y23.1.length : Int)), (y23.2.1, ((), (y23.2.2.2.1, (y23.2.2.2.2.1, (y23.2.2.2.2.2.1, (y23.2.2.2.2.2.2.1, (y23.2.2.2.2.2.2.2.1, (y23.2.2.2.2.2.2.2.2.1, (y23.2.2.2.2.2.2.2.2.2.1, ())))))))))))
 else none
 | .inr y23 =>
 some (.inr (y23.1, (y23.2.1, ((), (y23.2.2.2.1, (y23.2.2.2.2.1, (y23.2.2.2.2.2.1, (y23.2.2.2.2.2.2.1, (y23.2.2.2.2.2.2.2.1, (y23.2.2.2.2.2.2.2.2.1, (y23.2.2.2.2.2.2.2.2.2.1, ())))))))))))))

def runG_s28 (kf : Bool → Bool → Option (Unit × (Bool × Unit))) (a1 : List (Int × Int)) (a2 : List (Int × Int)) (a7 : List Int) (a10 : List (Int × Int)) (a11 : Int) (a12 : Int) (a44 : (Nat × Nat)) (a45 : Int) (a46 : Int) : Option ((List (Int × Int) × (List (Int × Int) × (Unit × (List Int × (List (Int × Int) × (Int × (Int × ((Nat × Nat) × (Int × (Int × Unit)))))))))) ⊕ (List (Int × Int) × (List (Int × Int) × (Unit × (List Int × (List (Int × Int) × (Int × (Int × ((Nat × Nat) × (Int × (Int × Unit))))))))))) :=
 (Option.bind (show Option ((List (Int × Int) × (List (Int × Int) × (Unit × (List Int × (List (Int × Int) × (Int × (Int × ((Nat × Nat) × (Int × (Int × Unit)))))))))) ⊕ (List (Int × Int) × (List (Int × Int) × (Unit × (List Int × (List (Int × Int) × (Int × (Int × ((Nat × Nat) × (Int × (Int × Unit))))))))))) from
 bif (decide ((a2.length : Int) > (0 : Int))) then
 (Option.bind (lk a2 (0 : Int)) fun x30 =>
 bif (decide (x30.2 < a12)) then
 some (.inl (a1, (a2, ((), (a7, (a10, (a11, (a12, (a44, (a45, (a46, ())))))))))))
 else
 some (.inr (a1, (a2, ((), (a7, (a10, (a11, (a12, (a44, (a45, (a46, ()))))))))))))
 else
 some (.inr (a1, (a2, ((), (a7, (a10, (a11, (a12, (a44, (a45, (a46, ())))))))))))) fun y31 =>
 (match y31 with
 | .inl y31 =>
 bif (inB (1 : Int) (y31.2.1.length : Int) y31.2.1.length) then
 some (.inl (y31.1, ((cut y31.2.1 (1 : Int) (y31.2.1.length : Int)), ((), (y31.2.2.2.1, (y31.2.2.2.2.1, (y31.2.2.2.2.2.1, (y31.2.2.2.2.2.2.1, (y31.2.2.2.2.2.2.2.1, (y31.2.2.2.2.2.2.2.2.1, (y31.2.2.2.2.2.2.2.2.2.1, ())))))))))))
 else none
 | .inr y31 =>
 some (.inr (y31.1, (y31.2.1, ((), (y31.2.2.2.1, (y31.2.2.2.2.1, (y31.2.2.2.2.2.1, (y31.2.2.2.2.2.2.1, (y31.2.2.2.2.2.2.2.1, (y31.2.2.2.2.2.2.2.2.1, (y31.2.2.2.2.2.2.2.2.2.1, ())))))))))))))

def runG_s16 (kf : Bool → Bool → Option (Unit × (Bool × Unit))) (a1 : List (Int × Int)) (a2 : List (Int × Int)) (a7 : List Int) (a10 : List (Int × Int)) (a44 : (Nat × Nat)) (a45 : Int) (a46 : Int) : Option ((List (Int × Int) × (List (Int × Int) × (Unit × (List Int × (List (Int × Int) × ((Nat × Nat) × (Int × (Int × Unit)))))))) ⊕ (List (Int × Int) × Unit)) :=
 bif (decide (a46 < a45)) then
 bif (inR a46 a44.2) then
 (Option.bind (lk a7 (plusI a44.1 a46)) fun x17 =>
 (Option.bind (show Option (List (Int × Int) × (List (Int × Int) × (Unit × (List Int × (List (Int × Int) × (Int × (Int × ((Nat × Nat) × (Int × (Int × Unit)))))))))) from
 (Option.bind (iterN (fun x => runG_s20 kf x.1 x.2.1 x.2.2.2.1 x.2.2.2.2.1 x.2.2.2.2.2.1 x.2.2.2.2.2.2.1 x.2.2.2.2.2.2.2.1 x.2.2.2.2.2.2.2.2.1 x.2.2.2.2.2.2.2.2.2.1) fuelN (a1, (a2, ((), (a7, (a10, (a46, (x17, (a44, (a45, (a46, ()))))))))))) fun y24 =>
 some (y24.1, (y24.2.1, ((), (y24.2.2.2.1, (y24.2.2.2.2.1, (y24.2.2.2.2.2.1, (y24.2.2.2.2.2.2.1, (y24.2.2.2.2.2.2.2.1, (y24.2.2.2.2.2.2.2.2.1, (y24.2.2.2.2.2.2.2.2.2.1, ())))))))))))) fun y25 =>
 (Option.bind (show Option (List (Int × Int) × (List (Int × Int) × (Unit × (List Int × (List (Int × Int) × (Int × (Int × ((Nat × Nat) × (Int × (Int × Unit)))))))))) from
 (Option.bind (iterN (fun x => runG_s28 kf x.1 x.2.1 x.2.2.2.1 x.2.2.2.2.1 x.2.2.2.2.2.1 x.2.2.2.2.2.2.1 x.2.2.2.2.2.2.2.1 x.2.2.2.2.2.2.2.2.1 x.2.2.2.2.2.2.2.2.2.1) fuelN (y25.1, (y25.2.1, ((), (y25.2.2.2.1, (y25.2.2.2.2.1, (y25.2.2.2.2.2.1, (y25.2.2.2.2.2.2.1, (y25.2.2.2.2.2.2.2.1, (y25.2.2.2.2.2.2.2.2.1, (y25.2.2.2.2.2.2.2.2.2.1, ()))))))))))) fun y32 =>
 some (y32.1, (y32.2.1, ((), (y32.2.2.2.1, (y32.2.2.2.2.1, (y32.2.2.2.2.2.1, (y32.2.2.2.2.2.2.1, (y32.2.2.2.2.2.2.2.1, (y32.2.2.2.2.2.2.2.2.1, (y32.2.2.2.2.2.2.2.2.2.1, ())))))))))))) fun y33 =>
 (Option.bind (show Option (List (Int × Int) × (List (Int × Int) × (Unit × (List Int × (List (Int × Int) × (Int × (Int × ((Nat × Nat) × (Int × (Int × (Bool × Unit))))))))))) from
 bif (decide ((y33.1.length : Int) > (0 : Int))) then
 (Option.bind (lk y33.1 (0 : Int)) fun x35 =>
 bif (decide ((y33.2.1.length : Int) > (0 : Int))) then
 (Option.bind (lk y33.2.1 (0 : Int)) fun x36 =>
 (Option.bind (kf (decide (x35.1 ≤ y33.2.2.2.2.2.2.1)) (decide (x36.1 ≤ y33.2.2.2.2.2.2.1))) fun r37 =>
 some (y33.1, (y33.2.1, ((), (y33.2.2.2.1, (y33.2.2.2.2.1, (y33.2.2.2.2.2.1, (y33.2.2.2.2.2.2.1, (y33.2.2.2.2.2.2.2.1, (y33.2.2.2.2.2.2.2.2.1, (y33.2.2.2.2.2.2.2.2.2.1, (r37.2.1, ())))))))))))))
 else
 (Option.bind (kf (decide (x35.1 ≤ y33.2.2.2.2.2.2.1)) false) fun r38 =>
 some (y33.1, (y33.2.1, ((), (y33.2.2.2.1, (y33.2.2.2.2.1, (y33.2.2.2.2.2.1, (y33.2.2.2.2.2.2.1, (y33.2.2.2.2.2.2.2.1, (y33.2.2.2.2.2.2.2.2.1, (y33.2.2.2.2.2.2.2.2.2.1, (r38.2.1, ())))))))))))))
 else
 bif (decide ((y33.2.1.length : Int) > (0 : Int))) then
 (Option.bind (lk y33.2.1 (0 : Int)) fun x39 =>
 (Option.bind (kf false (decide (x39.1 ≤ y33.2.2.2.2.2.2.1))) fun r40 =>
 some (y33.1, (y33.2.1, ((), (y33.2.2.2.1, (y33.2.2.2.2.1, (y33.2.2.2.2.2.1, (y33.2.2.2.2.2.2.1, (y33.2.2.2.2.2.2.2.1, (y33.2.2.2.2.2.2.2.2.1, (y33.2.2.2.2.2.2.2.2.2.1, (r40.2.1, ())))))))))))))
 else
 (Option.bind (kf false false) fun r41 =>
 some (y33.1, (y33.2.1, ((), (y33.2.2.2.1, (y33.2.2.2.2.1, (y33.2.2.2.2.2.1, (y33.2.2.2.2.2.2.1, (y33.2.2.2.2.2.2.2.1, (y33.2.2.2.2.2.2.2.2.1, (y33.2.2.2.2.2.2.2.2.2.1, (r41.2.1, ()))))))))))))) fun y42 =>
 bif y42.2.2.2.2.2.2.2.2.2.2.1 then
 (Option.bind (lk y42.2.2.2.1 (IntKind.i64.wrap (y42.2.2.2.2.2.1 + (1 : Int)))) fun _x43 =>
 (Option.bind (lk y42.2.2.2.1 (IntKind.i64.wrap (y42.2.2.2.2.2.1 + (1 : Int)))) fun x44 =>
 bif (roomOk (y42.2.2.2.2.1.length + [(y42.2.2.2.2.2.2.1, (IntKind.i32.wrap (x44 - (1 : Int))))].length) 8) then
 let l45 := (y42.2.2.2.2.1 ++ [(y42.2.2.2.2.2.2.1, (IntKind.i32.wrap (x44 - (1 : Int))))])
 some (.inl (y42.1, (y42.2.1, ((), (y42.2.2.2.1, (l45, (y42.2.2.2.2.2.2.2.1, (y42.2.2.2.2.2.2.2.2.1, ((IntKind.i64.wrap (y42.2.2.2.2.2.2.2.2.2.1 + (1 : Int))), ())))))))))
 else none))
 else
 some (.inl (y42.1, (y42.2.1, ((), (y42.2.2.2.1, (y42.2.2.2.2.1, (y42.2.2.2.2.2.2.2.1, (y42.2.2.2.2.2.2.2.2.1, ((IntKind.i64.wrap (y42.2.2.2.2.2.2.2.2.2.1 + (1 : Int))), ())))))))))))))
 else none
 else
 some (.inr (a10, ()))

def runG (kf : Bool → Bool → Option (Unit × (Bool × Unit))) (p1 : List (Int × Int)) (p2 : List (Int × Int)) : Option (Unit × (List (Int × Int) × Unit)) :=
 (Option.bind (rNorm p1) fun r1 =>
 (Option.bind (rNorm p2) fun r2 =>
 (Option.bind (show Option (List (Int × Int) × (List (Int × Int) × (Unit × (List Int × Unit)))) from
 (Option.bind (concat [r1.2.1, r2.2.1]) fun r4 =>
 (Option.bind (iterN (fun x => runG_s6 kf x.1 x.2.1 x.2.2.2.1 x.2.2.2.2.1 x.2.2.2.2.2.1 x.2.2.2.2.2.2.1) fuelN (r1.2.1, (r2.2.1, ((), ([(0 : Int), (1114112 : Int)], (r4.2.1, ((r4.2.1.length : Int), ((0 : Int), ())))))))) fun y9 =>
 some (y9.1, (y9.2.1, ((), (y9.2.2.2.1, ()))))))) fun y10 =>
 (Option.bind (sortI y10.2.2.2.1) fun r11 =>
 (Option.bind (compactI r11.1) fun r12 =>
 (Option.bind (show Option (List (Int × Int) × Unit) from
 bif (inB (0 : Int) (IntKind.i64.wrap ((r12.2.1.length : Int) - (1 : Int))) r12.2.1.length) then
 let v14 := ((IntKind.i64.wrap ((r12.2.1.length : Int) - (1 : Int))) - (0 : Int)).toNat
 (Option.bind (iterN (fun x => runG_s16 kf x.1 x.2.1 x.2.2.2.1 x.2.2.2.2.1 x.2.2.2.2.2.1 x.2.2.2.2.2.2.1 x.2.2.2.2.2.2.2.1) fuelN (y10.1, (y10.2.1, ((), (r12.2.1, (([] : List (Int × Int)), (((0 : Int).toNat, v14), ((v14 : Int), ((0 : Int), ()))))))))) fun y46 =>
 some (y46.1, ()))
 else none) fun y47 =>
 (Option.bind (rNorm y47.1) fun r48 =>
 some ((), (r48.2.1, ())))))))))

theorem runU_is (a b : List (Int × Int)) : runU a b = runG uF a b := rfl
theorem runM_is (a b : List (Int × Int)) : runM a b = runG mF a b := rfl
theorem runD_is (a b : List (Int × Int)) : runD a b = runG dF a b := rfl
end
end Go.Vt.Sg
