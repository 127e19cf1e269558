/- The sweep over two sets, for any of the four. -/
import Derived.Test.YtfklhbmicfammaaVsRs1
set_option linter.unusedVariables false
set_option maxRecDepth 100000
namespace Go.Vs.Rs
noncomputable section
open Go Go.Vs

def runG_s6 (kf : Bool → Bool → Option (Unit × (Bool × Unit))) (a1 : List (Int × Int)) (a2 : List (Int × Int)) (a3 : Int) (a21 : List (Int × Int)) (a22 : Int) (a23 : Int) (g3 : List Unit) (g7 : List Int) : Option (((List (Int × Int) × (List (Int × Int) × (Int × (List (Int × Int) × (Int × (Int × Unit)))))) × (List Unit × (List Int × Unit))) ⊕ ((List (Int × Int) × (List (Int × Int) × (Int × Unit))) × (List Unit × (List Int × Unit)))) :=
 bif (decide (a23 < a22)) then
 (Option.bind (lk a21 a23) fun x7 =>
 bif (roomOk (g7.length + [x7.1, (IntKind.i32.wrap (x7.2 + (1 : Int)))].length) 4) then
 some (.inl ((a1, (a2, (a3, (a21, (a22, ((IntKind.i64.wrap (a23 + (1 : Int))), ())))))), (g3, ((g7 ++ [x7.1, (IntKind.i32.wrap (x7.2 + (1 : Int)))]), ()))))
 else none)
 else
 some (.inr ((a1, (a2, (a3, ()))), (g3, (g7, ()))))

def runG_s19 (kf : Bool → Bool → Option (Unit × (Bool × Unit))) (a1 : List (Int × Int)) (a2 : List (Int × Int)) (a3 : Int) (a11 : Int) (a12 : Int) (a44 : (Nat × Nat)) (a45 : Int) (a46 : Int) (g3 : List Unit) (g7 : List Int) (g10 : List (Int × Int)) : Option (((List (Int × Int) × (List (Int × Int) × (Int × (Int × (Int × ((Nat × Nat) × (Int × (Int × Unit)))))))) × (List Unit × (List Int × (List (Int × Int) × Unit)))) ⊕ ((List (Int × Int) × (List (Int × Int) × (Int × (Int × (Int × ((Nat × Nat) × (Int × (Int × Unit)))))))) × (List Unit × (List Int × (List (Int × Int) × Unit))))) :=
 (Option.bind (show Option (((List (Int × Int) × (List (Int × Int) × (Int × (Int × (Int × ((Nat × Nat) × (Int × (Int × Unit)))))))) × (List Unit × (List Int × (List (Int × Int) × Unit)))) ⊕ ((List (Int × Int) × (List (Int × Int) × (Int × (Int × (Int × ((Nat × Nat) × (Int × (Int × Unit)))))))) × (List Unit × (List Int × (List (Int × Int) × Unit))))) from
 bif (decide ((a1.length : Int) > (0 : Int))) then
 (Option.bind (lk a1 (0 : Int)) fun x21 =>
 bif (decide (x21.2 < a12)) then
 some (.inl ((a1, (a2, (a3, (a11, (a12, (a44, (a45, (a46, ())))))))), (g3, (g7, (g10, ())))))
 else
 some (.inr ((a1, (a2, (a3, (a11, (a12, (a44, (a45, (a46, ())))))))), (g3, (g7, (g10, ()))))))
 else
 some (.inr ((a1, (a2, (a3, (a11, (a12, (a44, (a45, (a46, ())))))))), (g3, (g7, (g10, ())))))) fun y22 =>
 (match y22 with
 | .inl y22 =>
 bif (inB (1 : Int) (y22.1.1.length : Int) y22.1.1.length) then
 some (.inl (((cut y22.1.1 (1 : Int) (y22.1.1.length : Int)), (y22.1.2.1, (y22.1.2.2.1, (y22.1.2.2.2.1, (y22.1.2.2.2.2.1, (y22.1.2.2.2.2.2.1, (y22.1.2.2.2.2.2.2.1, (y22.1.2.2.2.2.2.2.2.1, ())))))))), (y22.2.1, (y22.2.2.1, (y22.2.2.2.1, ())))))
 else none
 | .inr y22 =>
 some (.inr ((y22.1.1, (y22.1.2.1, (y22.1.2.2.1, (y22.1.2.2.2.1, (y22.1.2.2.2.2.1, (y22.1.2.2.2.2.2.1, (y22.1.2.2.2.2.2.2.1, (y22.1.2.2.2.2.2.2.2.1, ())))))))), (y22.2.1, (y22.2.2.1, (y22.2.2.2.1, ())))))))

def runG_s27 (kf : Bool → Bool → Option (Unit × (Bool × Unit))) (a1 : List (Int × Int)) (a2 : List (Int × Int)) (a3 : Int) (a11 : Int) (a12 : Int) (a44 : (Nat × Nat)) (a45 : Int) (a46 : Int) (g3 : List Unit) (g7 : List Int) (g10 : List (Int × Int)) : Option (((List (Int × Int) × (List (Int × Int) × (Int × (Int × (Int × ((Nat × Nat) × (Int × (Int × Unit)))))))) × (List Unit × (List Int × (List (Int × Int) × Unit)))) ⊕ ((List (Int × Int) × (List (Int × Int) × (Int × (Int × (Int × ((Nat × Nat) × (Int × (Int × Unit)))))))) × (List Unit × (List Int × (List (Int × Int) × Unit))))) :=
 (Option.bind (show Option (((List (Int × Int) × (List (Int × Int) × (Int × (Int × (Int × ((Nat × Nat) × (Int × (Int × Unit)))))))) × (List Unit × (List Int × (List (Int × Int) × Unit)))) ⊕ ((List (Int × Int) × (List (Int × Int) × (Int × (Int × (Int × ((Nat × Nat) × (Int × (Int × Unit)))))))) × (List Unit × (List Int × (List (Int × Int) × Unit))))) from
 bif (decide ((a2.length : Int) > (0 : Int))) then
 (Option.bind (lk a2 (0 : Int)) fun x29 =>
 bif (decide (x29.2 < a12)) then
 some (.inl ((a1, (a2, (a3, (a11, (a12, (a44, (a45, (a46, ())))))))), (g3, (g7, (g10, ())))))
 else
 some (.inr ((a1, (a2, (a3, (a11, (a12, (a44, (a45, (a46, ())))))))), (g3, (g7, (g10, ()))))))
 else
 some (.inr ((a1, (a2, (a3, (a11, (a12, (a44, (a45, (a46, ())))))))), (g3, (g7, (g10, ())))))) fun y30 =>
 (match y30 with
 | .inl y30 =>
 bif (inB (1 : Int) (y30.1.2.1.length : Int) y30.1.2.1.length) then
 some (.inl ((y30.1.1, ((cut y30.1.2.1 (1 : Int) (y30.1.2.1.length : Int)), (y30.1.2.2.1, (y30.1.2.2.2.1, (y30.1.2.2.2.2.1, (y30.1.2.2.2.2.2.1, (y30.1.2.2.2.2.2.2.1, (y30.1.2.2.2.2.2.2.2.1, ())))))))), (y30.2.1, (y30.2.2.1, (y30.2.2.2.1, ())))))
 else none
 | .inr y30 =>
 some (.inr ((y30.1.1, (y30.1.2.1, (y30.1.2.2.1, (y30.1.2.2.2.1, (y30.1.2.2.2.2.1, (y30.1.2.2.2.2.2.1, (y30.1.2.2.2.2.2.2.1, (y30.1.2.2.2.2.2.2.2.1, ())))))))), (y30.2.1, (y30.2.2.1, (y30.2.2.2.1, ())))))))

def runG_s15 (kf : Bool → Bool → Option (Unit × (Bool × Unit))) (a1 : List (Int × Int)) (a2 : List (Int × Int)) (a3 : Int) (a44 : (Nat × Nat)) (a45 : Int) (a46 : Int) (g3 : List Unit) (g7 : List Int) (g10 : List (Int × Int)) : Option (((List (Int × Int) × (List (Int × Int) × (Int × ((Nat × Nat) × (Int × (Int × Unit)))))) × (List Unit × (List Int × (List (Int × Int) × Unit)))) ⊕ (Unit × (List (Int × Int) × Unit))) :=
 bif (decide (a46 < a45)) then
 bif (inR a46 a44.2) then
 (Option.bind (lk g7 (plusI a44.1 a46)) fun x16 =>
 (Option.bind (show Option ((List (Int × Int) × (List (Int × Int) × (Int × (Int × (Int × ((Nat × Nat) × (Int × (Int × Unit)))))))) × (List Unit × (List Int × (List (Int × Int) × Unit)))) from
 (Option.bind (iterN (fun x => runG_s19 kf x.1.1 x.1.2.1 x.1.2.2.1 x.1.2.2.2.1 x.1.2.2.2.2.1 x.1.2.2.2.2.2.1 x.1.2.2.2.2.2.2.1 x.1.2.2.2.2.2.2.2.1 x.2.1 x.2.2.1 x.2.2.2.1) fuelN ((a1, (a2, (a3, (a46, (x16, (a44, (a45, (a46, ())))))))), (g3, (g7, (g10, ()))))) fun y23 =>
 some ((y23.1.1, (y23.1.2.1, (y23.1.2.2.1, (y23.1.2.2.2.1, (y23.1.2.2.2.2.1, (y23.1.2.2.2.2.2.1, (y23.1.2.2.2.2.2.2.1, (y23.1.2.2.2.2.2.2.2.1, ())))))))), (y23.2.1, (y23.2.2.1, (y23.2.2.2.1, ())))))) fun y24 =>
 (Option.bind (show Option ((List (Int × Int) × (List (Int × Int) × (Int × (Int × (Int × ((Nat × Nat) × (Int × (Int × Unit)))))))) × (List Unit × (List Int × (List (Int × Int) × Unit)))) from
 (Option.bind (iterN (fun x => runG_s27 kf x.1.1 x.1.2.1 x.1.2.2.1 x.1.2.2.2.1 x.1.2.2.2.2.1 x.1.2.2.2.2.2.1 x.1.2.2.2.2.2.2.1 x.1.2.2.2.2.2.2.2.1 x.2.1 x.2.2.1 x.2.2.2.1) fuelN ((y24.1.1, (y24.1.2.1, (y24.1.2.2.1, (y24.1.2.2.2.1, (y24.1.2.2.2.2.1, (y24.1.2.2.2.2.2.1, (y24.1.2.2.2.2.2.2.1, (y24.1.2.2.2.2.2.2.2.1, ())))))))), (y24.2.1, (y24.2.2.1, (y24.2.2.2.1, ()))))) fun y31 =>
 some ((y31.1.1, (y31.1.2.1, (y31.1.2.2.1, (y31.1.2.2.2.1, (y31.1.2.2.2.2.1, (y31.1.2.2.2.2.2.1, (y31.1.2.2.2.2.2.2.1, (y31.1.2.2.2.2.2.2.2.1, ())))))))), (y31.2.1, (y31.2.2.1, (y31.2.2.2.1, ())))))) fun y32 =>
 (Option.bind (show Option ((List (Int × Int) × (List (Int × Int) × (Int × (Int × (Int × ((Nat × Nat) × (Int × (Int × (Bool × Unit))))))))) × (List Unit × (List Int × (List (Int × Int) × Unit)))) from
 (Option.bind (lk y32.2.1 y32.1.2.2.1) fun x34 =>
 bif (decide ((y32.1.1.length : Int) > (0 : Int))) then
 (Option.bind (lk y32.1.1 (0 : Int)) fun x35 =>
 bif (decide ((y32.1.2.1.length : Int) > (0 : Int))) then
 (Option.bind (lk y32.1.2.1 (0 : Int)) fun x36 =>
 (Option.bind (kf (decide (x35.1 ≤ y32.1.2.2.2.2.1)) (decide (x36.1 ≤ y32.1.2.2.2.2.1))) fun r37 =>
 some ((y32.1.1, (y32.1.2.1, (y32.1.2.2.1, (y32.1.2.2.2.1, (y32.1.2.2.2.2.1, (y32.1.2.2.2.2.2.1, (y32.1.2.2.2.2.2.2.1, (y32.1.2.2.2.2.2.2.2.1, (r37.2.1, ()))))))))), (y32.2.1, (y32.2.2.1, (y32.2.2.2.1, ()))))))
 else
 (Option.bind (kf (decide (x35.1 ≤ y32.1.2.2.2.2.1)) false) fun r38 =>
 some ((y32.1.1, (y32.1.2.1, (y32.1.2.2.1, (y32.1.2.2.2.1, (y32.1.2.2.2.2.1, (y32.1.2.2.2.2.2.1, (y32.1.2.2.2.2.2.2.1, (y32.1.2.2.2.2.2.2.2.1, (r38.2.1, ()))))))))), (y32.2.1, (y32.2.2.1, (y32.2.2.2.1, ()))))))
 else
 bif (decide ((y32.1.2.1.length : Int) > (0 : Int))) then
 (Option.bind (lk y32.1.2.1 (0 : Int)) fun x39 =>
 (Option.bind (kf false (decide (x39.1 ≤ y32.1.2.2.2.2.1))) fun r40 =>
 some ((y32.1.1, (y32.1.2.1, (y32.1.2.2.1, (y32.1.2.2.2.1, (y32.1.2.2.2.2.1, (y32.1.2.2.2.2.2.1, (y32.1.2.2.2.2.2.2.1, (y32.1.2.2.2.2.2.2.2.1, (r40.2.1, ()))))))))), (y32.2.1, (y32.2.2.1, (y32.2.2.2.1, ()))))))
 else
 (Option.bind (kf false false) fun r41 =>
 some ((y32.1.1, (y32.1.2.1, (y32.1.2.2.1, (y32.1.2.2.2.1, (y32.1.2.2.2.2.1, (y32.1.2.2.2.2.2.1, (y32.1.2.2.2.2.2.2.1, (y32.1.2.2.2.2.2.2.2.1, (r41.2.1, ()))))))))), (y32.2.1, (y32.2.2.1, (y32.2.2.2.1, ()))))))) fun y42 =>
 bif y42.1.2.2.2.2.2.2.2.2.1 then
 (Option.bind (lk y42.2.2.1 (IntKind.i64.wrap (y42.1.2.2.2.1 + (1 : Int)))) fun _x43 =>
 (Option.bind (lk y42.2.2.1 (IntKind.i64.wrap (y42.1.2.2.2.1 + (1 : Int)))) fun x44 =>
 bif (roomOk (y42.2.2.2.1.length + [(y42.1.2.2.2.2.1, (IntKind.i32.wrap (x44 - (1 : Int))))].length) 8) then
 let l45 := (y42.2.2.2.1 ++ [(y42.1.2.2.2.2.1, (IntKind.i32.wrap (x44 - (1 : Int))))])
 some (.inl ((y42.1.1, (y42.1.2.1, (y42.1.2.2.1, (y42.1.2.2.2.2.2.1, (y42.1.2.2.2.2.2.2.1, ((IntKind.i64.wrap (y42.1.2.2.2.2.2.2.2.1 + (1 : Int))), ())))))), (y42.2.1, (y42.2.2.1, (l45, ())))))
 else none))
 else
 some (.inl ((y42.1.1, (y42.1.2.1, (y42.1.2.2.1, (y42.1.2.2.2.2.2.1, (y42.1.2.2.2.2.2.2.1, ((IntKind.i64.wrap (y42.1.2.2.2.2.2.2.2.1 + (1 : Int))), ())))))), (y42.2.1, (y42.2.2.1, (y42.2.2.2.1, ())))))))))
 else none
 else
 some (.inr ((), (g10, ())))

def runG (kf : Bool → Bool → Option (Unit × (Bool × Unit))) (p1 : List (Int × Int)) (p2 : List (Int × Int)) : Option (Unit × (List (Int × Int) × Unit)) :=
 (Option.bind (rNorm p1) fun r1 =>
 (Option.bind (rNorm p2) fun r2 =>
 (Option.bind (show Option ((List (Int × Int) × (List (Int × Int) × (Int × Unit))) × (List Unit × (List Int × Unit))) from
 (Option.bind (concat [r1.2.1, r2.2.1]) fun r4 =>
 (Option.bind (iterN (fun x => runG_s6 kf x.1.1 x.1.2.1 x.1.2.2.1 x.1.2.2.2.1 x.1.2.2.2.2.1 x.1.2.2.2.2.2.1 x.2.1 x.2.2.1) fuelN ((r1.2.1, (r2.2.1, ((0 : Int), (r4.2.1, ((r4.2.1.length : Int), ((0 : Int), ())))))), ([()], ([(0 : Int), (1114112 : Int)], ())))) fun y8 =>
 some ((y8.1.1, (y8.1.2.1, (y8.1.2.2.1, ()))), (y8.2.1, (y8.2.2.1, ())))))) fun y9 =>
 (Option.bind (sortI y9.2.2.1) fun r10 =>
 (Option.bind (compactI r10.1) fun r11 =>
 (Option.bind (show Option (Unit × (List (Int × Int) × Unit)) from
 bif (inB (0 : Int) (IntKind.i64.wrap ((r11.2.1.length : Int) - (1 : Int))) r11.2.1.length) then
 let v13 := ((IntKind.i64.wrap ((r11.2.1.length : Int) - (1 : Int))) - (0 : Int)).toNat
 (Option.bind (iterN (fun x => runG_s15 kf x.1.1 x.1.2.1 x.1.2.2.1 x.1.2.2.2.1 x.1.2.2.2.2.1 x.1.2.2.2.2.2.1 x.2.1 x.2.2.1 x.2.2.2.1) fuelN ((y9.1.1, (y9.1.2.1, (y9.1.2.2.1, (((0 : Int).toNat, v13), ((v13 : Int), ((0 : Int), ())))))), (y9.2.1, (r11.2.1, (([] : List (Int × Int)), ()))))) fun y46 =>
 some ((), (y46.2.1, ())))
 else none) fun y47 =>
 (Option.bind (rNorm y47.2.1) fun r48 =>
 some ((), (r48.2.1, ())))))))))



theorem runU_is (a b : List (Int × Int)) : runU a b = runG uF a b := rfl
theorem runM_is (a b : List (Int × Int)) : runM a b = runG mF a b := rfl
theorem runD_is (a b : List (Int × Int)) : runD a b = runG dF a b := rfl
theorem runN_is (a : List (Int × Int)) : runN a = runG nF a [] := rfl
end
end Go.Vs.Rs
