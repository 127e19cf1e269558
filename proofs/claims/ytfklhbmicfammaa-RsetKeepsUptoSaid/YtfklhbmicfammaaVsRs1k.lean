/- The printed functions, continued. -/
import Derived.Test.YtfklhbmicfammaaVsRs1
set_option linter.unusedVariables false
set_option maxRecDepth 100000
namespace Go.Vs.Rs
noncomputable section
open Go Go.Vs Go.Proofs

/- 13: trema/rset.Norm -/
def rNormO_s3 (a10 : List (Int × Int)) (a11 : Int) (a12 : Int) (g3 : List (Int × Int)) : Option (((List (Int × Int) × (Int × (Int × Unit))) × (List (Int × Int) × Unit)) ⊕ (Unit × (List (Int × Int) × Unit))) :=
 bif (decide (a12 < a11)) then
 (Option.bind (lk a10 a12) fun x4 =>
 let v5 := (decide ((if (0 : Int) > x4.1 then (0 : Int) else x4.1) ≤ (if (1114111 : Int) < x4.2 then (1114111 : Int) else x4.2)))
 bif v5 then
 bif (roomOk (g3.length + [((if (0 : Int) > x4.1 then (0 : Int) else x4.1), (if (1114111 : Int) < x4.2 then (1114111 : Int) else x4.2))].length) 8) then
 let l6 := (g3 ++ [((if (0 : Int) > x4.1 then (0 : Int) else x4.1), (if (1114111 : Int) < x4.2 then (1114111 : Int) else x4.2))])
 some (.inl ((a10, (a11, ((IntKind.i64.wrap (a12 + (1 : Int))), ()))), (l6, ())))
 else none
 else
 some (.inl ((a10, (a11, ((IntKind.i64.wrap (a12 + (1 : Int))), ()))), (g3, ()))))
 else
 some (.inr ((), (g3, ())))

def rNormO_s11 (a37 : Int) (a38 : Int) (g6 : List (Int × Int)) (g36 : List (Int × Int)) : Option (((Int × (Int × Unit)) × (List (Int × Int) × (List (Int × Int) × Unit))) ⊕ (Unit × (List (Int × Int) × Unit))) :=
 bif (decide (a38 < a37)) then
 (Option.bind (lk g36 a38) fun _x12 =>
 (Option.bind (lk g36 a38) fun x13 =>
 (Option.bind (show Option ((Int × (Int × (Int × (Int × (Bool × Unit))))) × (List (Int × Int) × (List (Int × Int) × (List (Int × Int) × Unit)))) from
 bif (decide ((g6.length : Int) > (0 : Int))) then
 (Option.bind (lk g6 (IntKind.i64.wrap ((g6.length : Int) - (1 : Int)))) fun _x15 =>
 (Option.bind (lk g6 (IntKind.i64.wrap ((g6.length : Int) - (1 : Int)))) fun x16 =>
 some (((0 : Int), ((g6.length : Int), (a37, (a38, ((decide (x13.1 ≤ (IntKind.i32.wrap (x16.2 + (1 : Int))))), ()))))), (g6, ([x13], (g36, ()))))))
 else
 some (((0 : Int), ((g6.length : Int), (a37, (a38, (false, ()))))), (g6, ([x13], (g36, ()))))) fun y17 =>
 bif y17.1.2.2.2.2.1 then
 (Option.bind (lk y17.2.1 (IntKind.i64.wrap (y17.1.2.1 - (1 : Int)))) fun _x18 =>
 (Option.bind (lk y17.2.1 (IntKind.i64.wrap (y17.1.2.1 - (1 : Int)))) fun x19 =>
 (Option.bind (lk y17.2.2.1 y17.1.1) fun x20 =>
 (Option.bind (lk y17.2.1 (IntKind.i64.wrap (y17.1.2.1 - (1 : Int)))) fun _x21 =>
 (Option.bind (lk y17.2.1 (IntKind.i64.wrap (y17.1.2.1 - (1 : Int)))) fun x22 =>
 let l23 := (y17.2.1.set (IntKind.i64.wrap (y17.1.2.1 - (1 : Int))).toNat (x22.1, (if x20.2 > x19.2 then x20.2 else x19.2)))
 some (.inl ((y17.1.2.2.1, ((IntKind.i64.wrap (y17.1.2.2.2.1 + (1 : Int))), ())), (l23, (y17.2.2.2.1, ())))))))))
 else
 (Option.bind (lk y17.2.2.1 y17.1.1) fun x24 =>
 bif (roomOk (y17.2.1.length + [x24].length) 8) then
 some (.inl ((y17.1.2.2.1, ((IntKind.i64.wrap (y17.1.2.2.2.1 + (1 : Int))), ())), ((y17.2.1 ++ [x24]), (y17.2.2.2.1, ()))))
 else none))))
 else
 some (.inr ((), (g6, ())))

def rNormO (p0 : List (Int × Int)) : Option (Unit × (List (Int × Int) × Unit)) :=
 (Option.bind (show Option (Unit × (List (Int × Int) × Unit)) from
 (Option.bind (iterN (fun x => rNormO_s3 x.1.1 x.1.2.1 x.1.2.2.1 x.2.1) fuelN ((p0, ((p0.length : Int), ((0 : Int), ()))), (([] : List (Int × Int)), ()))) fun y7 =>
 some ((), (y7.2.1, ())))) fun y8 =>
 (Option.bind (sortF y8.2.1) fun r9 =>
 (Option.bind (iterN (fun x => rNormO_s11 x.1.1 x.1.2.1 x.2.1 x.2.2.1) fuelN (((r9.1.length : Int), ((0 : Int), ())), (([] : List (Int × Int)), (r9.1, ())))) fun y25 =>
 some ((), (y25.2.1, ())))))


def rNormO_c : Ctr := ⟨[.ro (.slice (.st (.pair (.int IntKind.i32) (.int IntKind.i32))))], [.own (.st (.pair (.int IntKind.i32) (.int IntKind.i32)))], fun v => rNormO v.1⟩
def rNormO_h : Nat → Option LH := fun i => if i = 12 then some ⟨⟨[(6, (.ow 0)), (36, (.ow 1)), (37, (.int IntKind.i64)), (38, (.int IntKind.i64))], [(6, (.st (.pair (.int IntKind.i32) (.int IntKind.i32)))), (36, (.st (.pair (.int IntKind.i32) (.int IntKind.i32))))], []⟩, [((.exit 2), ⟨[(6, (.ow 0))], [(6, (.st (.pair (.int IntKind.i32) (.int IntKind.i32))))], []⟩)]⟩ else if i = 1150016 then some ⟨⟨[], [], []⟩, [(.normal, ⟨[(6, (.ow 0)), (8, (.oad 1 0)), (9, (.int IntKind.i64)), (36, (.ow 2)), (37, (.int IntKind.i64)), (38, (.int IntKind.i64)), (57, .bool)], [(6, (.st (.pair (.int IntKind.i32) (.int IntKind.i32)))), (8, (.st (.pair (.int IntKind.i32) (.int IntKind.i32)))), (36, (.st (.pair (.int IntKind.i32) (.int IntKind.i32))))], []⟩)]⟩ else if i = 1020009 then some ⟨⟨[], [], []⟩, [(.normal, ⟨[(3, (.ow 0))], [(3, (.st (.pair (.int IntKind.i32) (.int IntKind.i32))))], []⟩)]⟩ else if i = 3 then some ⟨⟨[(3, (.ow 0)), (10, (.slice (.st (.pair (.int IntKind.i32) (.int IntKind.i32))))), (11, (.int IntKind.i64)), (12, (.int IntKind.i64))], [(3, (.st (.pair (.int IntKind.i32) (.int IntKind.i32))))], []⟩, [((.exit 0), ⟨[(3, (.ow 0))], [(3, (.st (.pair (.int IntKind.i32) (.int IntKind.i32))))], []⟩)]⟩ else none
def rNormO_g : List (Nat × Ctr) := [(29, sortF_c)]
theorem rNormO_eq (v : PDen rNormO_c.ps) : semF tbl (gam rNormO_g) rNormO_h fuelN 78 (bodyOf Try.f13) rNormO_c.ps rNormO_c.rs [2] v = rNormO_c.g v := by kernel_rfl

/- 34: (trema/rset.sweep).run -/
def runUO_s6 (a1 : List (Int × Int)) (a2 : List (Int × Int)) (a3 : Int) (a21 : List (Int × Int)) (a22 : Int) (a23 : Int) (g3 : List Unit) (g7 : List Int) : Option (((List (Int × Int) × (List (Int × Int) × (Int × (List (Int × Int) × (Int × (Int × Unit)))))) × (List Unit × (List Int × Unit))) ⊕ ((List (Int × Int) × (List (Int × Int) × (Int × Unit))) × (List Unit × (List Int × Unit)))) :=
 bif (decide (a23 < a22)) then
 (Option.bind (lk a21 a23) fun x7 =>
 bif (roomOk (g7.length + [x7.1, (IntKind.i32.wrap (x7.2 + (1 : Int)))].length) 4) then
 some (.inl ((a1, (a2, (a3, (a21, (a22, ((IntKind.i64.wrap (a23 + (1 : Int))), ())))))), (g3, ((g7 ++ [x7.1, (IntKind.i32.wrap (x7.2 + (1 : Int)))]), ()))))
 else none)
 else
 some (.inr ((a1, (a2, (a3, ()))), (g3, (g7, ()))))

def runUO_s19 (a1 : List (Int × Int)) (a2 : List (Int × Int)) (a3 : Int) (a11 : Int) (a12 : Int) (a44 : (Nat × Nat)) (a45 : Int) (a46 : Int) (g3 : List Unit) (g7 : List Int) (g10 : List (Int × Int)) : Option (((List (Int × Int) × (List (Int × Int) × (Int × (Int × (Int × ((Nat × Nat) × (Int × (Int × Unit)))))))) × (List Unit × (List Int × (List (Int × Int) × Unit)))) ⊕ ((List (Int × Int) × (List (Int × Int) × (Int × (Int × (Int × ((Nat × Nat) × (Int × (Int × Unit)))))))) × (List Unit × (List Int × (List (Int × Int) × Unit))))) :=
 (Option.bind (show Option (((List (Int × Int) × (List (Int × Int) × (Int × (Int × (Int × ((Nat × Nat) × (Int × (Int × Unit)))))))) × (List Unit × (List Int × (List (Int × Int) × Unit)))) ⊕ ((List (Int × Int) × (List (Int × Int) × (Int × (Int × (Int × ((Nat × Nat) × (Int × (Int × Unit)))))))) × (List Unit × (List Int × (List (Int × Int) × Unit))))) from
 bif (decide ((a1.length : Int) > (0 : Int))) then
 (Option.bind (lk a1 (0 : Int)) fun x21 =>
 bif (decide (x21.2 < a12)) then
 some (.inl ((a1, (a2, (a3, (a11, (a12, (a44, (a45, (a46, ())))))))), (g3, (g7, (g10, ())))))
 else
 some (.inr ((a1, (a2, (a3, (a11, (a12, (a44, (a45, (a46, ())))))))), (g3, (g7, (g10, ()))))))
 else
 some (.inr ((a1, (a2, (a3, (a11, (a12, (a44, (a45, (a46, ())))))))), (g3, (g7, (g10, ())))))) fun y22 =>
 (match y22 with
 | .inl y22 =>
 bif (inB (1 : Int) (y22.1.1.length : Int) y22.1.1.length) then
 some (.inl (((cut y22.1.1 (1 : Int) (y22.1.1.length : Int)), (y22.1.2.1, (y22.1.2.2.1, (y22.1.2.2.2.1, (y22.1.2.2.2.2.1, (y22.1.2.2.2.2.2.1, (y22.1.2.2.2.2.2.2.1, (y22.1.2.2.2.2.2.2.2.1, ())))))))), (y22.2.1, (y22.2.2.1, (y22.2.2.2.1, ())))))
 else none
 | .inr y22 =>
 some (.inr ((y22.1.1, (y22.1.2.1, (y22.1.2.2.1, (y22.1.2.2.2.1, (y22.1.2.2.2.2.1, (y22.1.2.2.2.2.2.1, (y22.1.2.2.2.2.2.2.1, (y22.1.2.2.2.2.2.2.2.1, ())))))))), (y22.2.1, (y22.2.2.1, (y22.2.2.2.1, ())))))))

def runUO_s27 (a1 : List (Int × Int)) (a2 : List (Int × Int)) (a3 : Int) (a11 : Int) (a12 : Int) (a44 : (Nat × Nat)) (a45 : Int) (a46 : Int) (g3 : List Unit) (g7 : List Int) (g10 : List (Int × Int)) : Option (((List (Int × Int) × (List (Int × Int) × (Int × (Int × (Int × ((Nat × Nat) × (Int × (Int × Unit)))))))) × (List Unit × (List Int × (List (Int × Int) × Unit)))) ⊕ ((List (Int × Int) × (List (Int × Int) × (Int × (Int × (Int × ((Nat × Nat) × (Int × (Int × Unit)))))))) × (List Unit × (List Int × (List (Int × Int) × Unit))))) :=
 (Option.bind (show Option (((List (Int × Int) × (List (Int × Int) × (Int × (Int × (Int × ((Nat × Nat) × (Int × (Int × Unit)))))))) × (List Unit × (List Int × (List (Int × Int) × Unit)))) ⊕ ((List (Int × Int) × (List (Int × Int) × (Int × (Int × (Int × ((Nat × Nat) × (Int × (Int × Unit)))))))) × (List Unit × (List Int × (List (Int × Int) × Unit))))) from
 bif (decide ((a2.length : Int) > (0 : Int))) then
 (Option.bind (lk a2 (0 : Int)) fun x29 =>
 bif (decide (x29.2 < a12)) then
 some (.inl ((a1, (a2, (a3, (a11, (a12, (a44, (a45, (a46, ())))))))), (g3, (g7, (g10, ())))))
 else
 some (.inr ((a1, (a2, (a3, (a11, (a12, (a44, (a45, (a46, ())))))))), (g3, (g7, (g10, ()))))))
 else
 some (.inr ((a1, (a2, (a3, (a11, (a12, (a44, (a45, (a46, ())))))))), (g3, (g7, (g10, ())))))) fun y30 =>
 (match y30 with
 | .inl y30 =>
 bif (inB (1 : Int) (y30.1.2.1.length : Int) y30.1.2.1.length) then
 some (.inl ((y30.1.1, ((cut y30.1.2.1 (1 : Int) (y30.1.2.1.length : Int)), (y30.1.2.2.1, (y30.1.2.2.2.1, (y30.1.2.2.2.2.1, (y30.1.2.2.2.2.2.1, (y30.1.2.2.2.2.2.2.1, (y30.1.2.2.2.2.2.2.2.1, ())))))))), (y30.2.1, (y30.2.2.1, (y30.2.2.2.1, ())))))
 else none
 | .inr y30 =>
 some (.inr ((y30.1.1, (y30.1.2.1, (y30.1.2.2.1, (y30.1.2.2.2.1, (y30.1.2.2.2.2.1, (y30.1.2.2.2.2.2.1, (y30.1.2.2.2.2.2.2.1, (y30.1.2.2.2.2.2.2.2.1, ())))))))), (y30.2.1, (y30.2.2.1, (y30.2.2.2.1, ())))))))

def runUO_s15 (a1 : List (Int × Int)) (a2 : List (Int × Int)) (a3 : Int) (a44 : (Nat × Nat)) (a45 : Int) (a46 : Int) (g3 : List Unit) (g7 : List Int) (g10 : List (Int × Int)) : Option (((List (Int × Int) × (List (Int × Int) × (Int × ((Nat × Nat) × (Int × (Int × Unit)))))) × (List Unit × (List Int × (List (Int × Int) × Unit)))) ⊕ (Unit × (List (Int × Int) × Unit))) :=
 bif (decide (a46 < a45)) then
 bif (inR a46 a44.2) then
 (Option.bind (lk g7 (plusI a44.1 a46)) fun x16 =>
 (Option.bind (show Option ((List (Int × Int) × (List (Int × Int) × (Int × (Int × (Int × ((Nat × Nat) × (Int × (Int × Unit)))))))) × (List Unit × (List Int × (List (Int × Int) × Unit)))) from
 (Option.bind (iterN (fun x => runUO_s19 x.1.1 x.1.2.1 x.1.2.2.1 x.1.2.2.2.1 x.1.2.2.2.2.1 x.1.2.2.2.2.2.1 x.1.2.2.2.2.2.2.1 x.1.2.2.2.2.2.2.2.1 x.2.1 x.2.2.1 x.2.2.2.1) fuelN ((a1, (a2, (a3, (a46, (x16, (a44, (a45, (a46, ())))))))), (g3, (g7, (g10, ()))))) fun y23 =>
 some ((y23.1.1, (y23.1.2.1, (y23.1.2.2.1, (y23.1.2.2.2.1, (y23.1.2.2.2.2.1, (y23.1.2.2.2.2.2.1, (y23.1.2.2.2.2.2.2.1, (y23.1.2.2.2.2.2.2.2.1, ())))))))), (y23.2.1, (y23.2.2.1, (y23.2.2.2.1, ())))))) fun y24 =>
 (Option.bind (show Option ((List (Int × Int) × (List (Int × Int) × (Int × (Int × (Int × ((Nat × Nat) × (Int × (Int × Unit)))))))) × (List Unit × (List Int × (List (Int × Int) × Unit)))) from
 (Option.bind (iterN (fun x => runUO_s27 x.1.1 x.1.2.1 x.1.2.2.1 x.1.2.2.2.1 x.1.2.2.2.2.1 x.1.2.2.2.2.2.1 x.1.2.2.2.2.2.2.1 x.1.2.2.2.2.2.2.2.1 x.2.1 x.2.2.1 x.2.2.2.1) fuelN ((y24.1.1, (y24.1.2.1, (y24.1.2.2.1, (y24.1.2.2.2.1, (y24.1.2.2.2.2.1, (y24.1.2.2.2.2.2.1, (y24.1.2.2.2.2.2.2.1, (y24.1.2.2.2.2.2.2.2.1, ())))))))), (y24.2.1, (y24.2.2.1, (y24.2.2.2.1, ()))))) fun y31 =>
 some ((y31.1.1, (y31.1.2.1, (y31.1.2.2.1, (y31.1.2.2.2.1, (y31.1.2.2.2.2.1, (y31.1.2.2.2.2.2.1, (y31.1.2.2.2.2.2.2.1, (y31.1.2.2.2.2.2.2.2.1, ())))))))), (y31.2.1, (y31.2.2.1, (y31.2.2.2.1, ())))))) fun y32 =>
 (Option.bind (show Option ((List (Int × Int) × (List (Int × Int) × (Int × (Int × (Int × ((Nat × Nat) × (Int × (Int × (Bool × Unit))))))))) × (List Unit × (List Int × (List (Int × Int) × Unit)))) from
 (Option.bind (lk y32.2.1 y32.1.2.2.1) fun x34 =>
 bif (decide ((y32.1.1.length : Int) > (0 : Int))) then
 (Option.bind (lk y32.1.1 (0 : Int)) fun x35 =>
 bif (decide ((y32.1.2.1.length : Int) > (0 : Int))) then
 (Option.bind (lk y32.1.2.1 (0 : Int)) fun x36 =>
 (Option.bind (uF (decide (x35.1 ≤ y32.1.2.2.2.2.1)) (decide (x36.1 ≤ y32.1.2.2.2.2.1))) fun r37 =>
 some ((y32.1.1, (y32.1.2.1, (y32.1.2.2.1, (y32.1.2.2.2.1, (y32.1.2.2.2.2.1, (y32.1.2.2.2.2.2.1, (y32.1.2.2.2.2.2.2.1, (y32.1.2.2.2.2.2.2.2.1, (r37.2.1, ()))))))))), (y32.2.1, (y32.2.2.1, (y32.2.2.2.1, ()))))))
 else
 (Option.bind (uF (decide (x35.1 ≤ y32.1.2.2.2.2.1)) false) fun r38 =>
 some ((y32.1.1, (y32.1.2.1, (y32.1.2.2.1, (y32.1.2.2.2.1, (y32.1.2.2.2.2.1, (y32.1.2.2.2.2.2.1, (y32.1.2.2.2.2.2.2.1, (y32.1.2.2.2.2.2.2.2.1, (r38.2.1, ()))))))))), (y32.2.1, (y32.2.2.1, (y32.2.2.2.1, ()))))))
 else
 bif (decide ((y32.1.2.1.length : Int) > (0 : Int))) then
 (Option.bind (lk y32.1.2.1 (0 : Int)) fun x39 =>
 (Option.bind (uF false (decide (x39.1 ≤ y32.1.2.2.2.2.1))) fun r40 =>
 some ((y32.1.1, (y32.1.2.1, (y32.1.2.2.1, (y32.1.2.2.2.1, (y32.1.2.2.2.2.1, (y32.1.2.2.2.2.2.1, (y32.1.2.2.2.2.2.2.1, (y32.1.2.2.2.2.2.2.2.1, (r40.2.1, ()))))))))), (y32.2.1, (y32.2.2.1, (y32.2.2.2.1, ()))))))
 else
 (Option.bind (uF false false) fun r41 =>
 some ((y32.1.1, (y32.1.2.1, (y32.1.2.2.1, (y32.1.2.2.2.1, (y32.1.2.2.2.2.1, (y32.1.2.2.2.2.2.1, (y32.1.2.2.2.2.2.2.1, (y32.1.2.2.2.2.2.2.2.1, (r41.2.1, ()))))))))), (y32.2.1, (y32.2.2.1, (y32.2.2.2.1, ()))))))) fun y42 =>
 bif y42.1.2.2.2.2.2.2.2.2.1 then
 (Option.bind (lk y42.2.2.1 (IntKind.i64.wrap (y42.1.2.2.2.1 + (1 : Int)))) fun _x43 =>
 (Option.bind (lk y42.2.2.1 (IntKind.i64.wrap (y42.1.2.2.2.1 + (1 : Int)))) fun x44 =>
 bif (roomOk (y42.2.2.2.1.length + [(y42.1.2.2.2.2.1, (IntKind.i32.wrap (x44 - (1 : Int))))].length) 8) then
 let l45 := (y42.2.2.2.1 ++ [(y42.1.2.2.2.2.1, (IntKind.i32.wrap (x44 - (1 : Int))))])
 some (.inl ((y42.1.1, (y42.1.2.1, (y42.1.2.2.1, (y42.1.2.2.2.2.2.1, (y42.1.2.2.2.2.2.2.1, ((IntKind.i64.wrap (y42.1.2.2.2.2.2.2.2.1 + (1 : Int))), ())))))), (y42.2.1, (y42.2.2.1, (l45, ())))))
 else none))
 else
 some (.inl ((y42.1.1, (y42.1.2.1, (y42.1.2.2.1, (y42.1.2.2.2.2.2.1, (y42.1.2.2.2.2.2.2.1, ((IntKind.i64.wrap (y42.1.2.2.2.2.2.2.2.1 + (1 : Int))), ())))))), (y42.2.1, (y42.2.2.1, (y42.2.2.2.1, ())))))))))
 else none
 else
 some (.inr ((), (g10, ())))

def runUO (p1 : List (Int × Int)) (p2 : List (Int × Int)) : Option (Unit × (List (Int × Int) × Unit)) :=
 (Option.bind (rNormO p1) fun r1 =>
 (Option.bind (rNormO p2) fun r2 =>
 (Option.bind (show Option ((List (Int × Int) × (List (Int × Int) × (Int × Unit))) × (List Unit × (List Int × Unit))) from
 (Option.bind (concat [r1.2.1, r2.2.1]) fun r4 =>
 (Option.bind (iterN (fun x => runUO_s6 x.1.1 x.1.2.1 x.1.2.2.1 x.1.2.2.2.1 x.1.2.2.2.2.1 x.1.2.2.2.2.2.1 x.2.1 x.2.2.1) fuelN ((r1.2.1, (r2.2.1, ((0 : Int), (r4.2.1, ((r4.2.1.length : Int), ((0 : Int), ())))))), ([()], ([(0 : Int), (1114112 : Int)], ())))) fun y8 =>
 some ((y8.1.1, (y8.1.2.1, (y8.1.2.2.1, ()))), (y8.2.1, (y8.2.2.1, ())))))) fun y9 =>
 (Option.bind (sortI y9.2.2.1) fun r10 =>
 (Option.bind (compactI r10.1) fun r11 =>
 (Option.bind (show Option (Unit × (List (Int × Int) × Unit)) from
 bif (inB (0 : Int) (IntKind.i64.wrap ((r11.2.1.length : Int) - (1 : Int))) r11.2.1.length) then
 let v13 := ((IntKind.i64.wrap ((r11.2.1.length : Int) - (1 : Int))) - (0 : Int)).toNat
 (Option.bind (iterN (fun x => runUO_s15 x.1.1 x.1.2.1 x.1.2.2.1 x.1.2.2.2.1 x.1.2.2.2.2.1 x.1.2.2.2.2.2.1 x.2.1 x.2.2.1 x.2.2.2.1) fuelN ((y9.1.1, (y9.1.2.1, (y9.1.2.2.1, (((0 : Int).toNat, v13), ((v13 : Int), ((0 : Int), ())))))), (y9.2.1, (r11.2.1, (([] : List (Int × Int)), ()))))) fun y46 =>
 some ((), (y46.2.1, ())))
 else none) fun y47 =>
 (Option.bind (rNormO y47.2.1) fun r48 =>
 some ((), (r48.2.1, ())))))))))


def runUO_c : Ctr := ⟨[.ro (.st (.clo 33 .unit)), .ro (.slice (.st (.pair (.int IntKind.i32) (.int IntKind.i32)))), .ro (.slice (.st (.pair (.int IntKind.i32) (.int IntKind.i32))))], [.own (.st (.pair (.int IntKind.i32) (.int IntKind.i32)))], fun v => runUO v.2.1 v.2.2.1⟩
def runUO_h : Nat → Option LH := fun i => if i = 1110021 then some ⟨⟨[], [], []⟩, [(.normal, ⟨[(10, (.ow 0))], [(10, (.st (.pair (.int IntKind.i32) (.int IntKind.i32))))], []⟩)]⟩ else if i = 12 then some ⟨⟨[(1, (.slice (.st (.pair (.int IntKind.i32) (.int IntKind.i32))))), (2, (.slice (.st (.pair (.int IntKind.i32) (.int IntKind.i32))))), (3, (.oad 0 0)), (7, (.ow 1)), (10, (.ow 2)), (44, (.osl 1)), (45, (.int IntKind.i64)), (46, (.int IntKind.i64))], [(3, (.st (.clo 33 .unit))), (7, (.int IntKind.i32)), (10, (.st (.pair (.int IntKind.i32) (.int IntKind.i32))))], []⟩, [((.exit 2), ⟨[(10, (.ow 0))], [(10, (.st (.pair (.int IntKind.i32) (.int IntKind.i32))))], []⟩)]⟩ else if i = 1180019 then some ⟨⟨[], [], []⟩, [(.normal, ⟨[(1, (.slice (.st (.pair (.int IntKind.i32) (.int IntKind.i32))))), (2, (.slice (.st (.pair (.int IntKind.i32) (.int IntKind.i32))))), (3, (.oad 0 0)), (7, (.ow 1)), (10, (.ow 2)), (11, (.int IntKind.i64)), (12, (.int IntKind.i32)), (44, (.osl 1)), (45, (.int IntKind.i64)), (46, (.int IntKind.i64)), (101, .bool)], [(3, (.st (.clo 33 .unit))), (7, (.int IntKind.i32)), (10, (.st (.pair (.int IntKind.i32) (.int IntKind.i32))))], []⟩)]⟩ else if i = 1160018 then some ⟨⟨[], [], []⟩, [(.normal, ⟨[(1, (.slice (.st (.pair (.int IntKind.i32) (.int IntKind.i32))))), (2, (.slice (.st (.pair (.int IntKind.i32) (.int IntKind.i32))))), (3, (.oad 0 0)), (7, (.ow 1)), (10, (.ow 2)), (11, (.int IntKind.i64)), (12, (.int IntKind.i32)), (44, (.osl 1)), (45, (.int IntKind.i64)), (46, (.int IntKind.i64))], [(3, (.st (.clo 33 .unit))), (7, (.int IntKind.i32)), (10, (.st (.pair (.int IntKind.i32) (.int IntKind.i32))))], []⟩)]⟩ else if i = 16 then some ⟨⟨[(1, (.slice (.st (.pair (.int IntKind.i32) (.int IntKind.i32))))), (2, (.slice (.st (.pair (.int IntKind.i32) (.int IntKind.i32))))), (3, (.oad 0 0)), (7, (.ow 1)), (10, (.ow 2)), (11, (.int IntKind.i64)), (12, (.int IntKind.i32)), (44, (.osl 1)), (45, (.int IntKind.i64)), (46, (.int IntKind.i64))], [(3, (.st (.clo 33 .unit))), (7, (.int IntKind.i32)), (10, (.st (.pair (.int IntKind.i32) (.int IntKind.i32))))], []⟩, [((.exit 6), ⟨[(1, (.slice (.st (.pair (.int IntKind.i32) (.int IntKind.i32))))), (2, (.slice (.st (.pair (.int IntKind.i32) (.int IntKind.i32))))), (3, (.oad 0 0)), (7, (.ow 1)), (10, (.ow 2)), (11, (.int IntKind.i64)), (12, (.int IntKind.i32)), (44, (.osl 1)), (45, (.int IntKind.i64)), (46, (.int IntKind.i64))], [(3, (.st (.clo 33 .unit))), (7, (.int IntKind.i32)), (10, (.st (.pair (.int IntKind.i32) (.int IntKind.i32))))], []⟩)]⟩ else if i = 1160017 then some ⟨⟨[], [], []⟩, [(.normal, ⟨[(1, (.slice (.st (.pair (.int IntKind.i32) (.int IntKind.i32))))), (2, (.slice (.st (.pair (.int IntKind.i32) (.int IntKind.i32))))), (3, (.oad 0 0)), (7, (.ow 1)), (10, (.ow 2)), (11, (.int IntKind.i64)), (12, (.int IntKind.i32)), (44, (.osl 1)), (45, (.int IntKind.i64)), (46, (.int IntKind.i64))], [(3, (.st (.clo 33 .unit))), (7, (.int IntKind.i32)), (10, (.st (.pair (.int IntKind.i32) (.int IntKind.i32))))], []⟩), ((.exit 6), ⟨[(1, (.slice (.st (.pair (.int IntKind.i32) (.int IntKind.i32))))), (2, (.slice (.st (.pair (.int IntKind.i32) (.int IntKind.i32))))), (3, (.oad 0 0)), (7, (.ow 1)), (10, (.ow 2)), (11, (.int IntKind.i64)), (12, (.int IntKind.i32)), (44, (.osl 1)), (45, (.int IntKind.i64)), (46, (.int IntKind.i64))], [(3, (.st (.clo 33 .unit))), (7, (.int IntKind.i32)), (10, (.st (.pair (.int IntKind.i32) (.int IntKind.i32))))], []⟩)]⟩ else if i = 1140016 then some ⟨⟨[], [], []⟩, [(.normal, ⟨[(1, (.slice (.st (.pair (.int IntKind.i32) (.int IntKind.i32))))), (2, (.slice (.st (.pair (.int IntKind.i32) (.int IntKind.i32))))), (3, (.oad 0 0)), (7, (.ow 1)), (10, (.ow 2)), (11, (.int IntKind.i64)), (12, (.int IntKind.i32)), (44, (.osl 1)), (45, (.int IntKind.i64)), (46, (.int IntKind.i64))], [(3, (.st (.clo 33 .unit))), (7, (.int IntKind.i32)), (10, (.st (.pair (.int IntKind.i32) (.int IntKind.i32))))], []⟩)]⟩ else if i = 14 then some ⟨⟨[(1, (.slice (.st (.pair (.int IntKind.i32) (.int IntKind.i32))))), (2, (.slice (.st (.pair (.int IntKind.i32) (.int IntKind.i32))))), (3, (.oad 0 0)), (7, (.ow 1)), (10, (.ow 2)), (11, (.int IntKind.i64)), (12, (.int IntKind.i32)), (44, (.osl 1)), (45, (.int IntKind.i64)), (46, (.int IntKind.i64))], [(3, (.st (.clo 33 .unit))), (7, (.int IntKind.i32)), (10, (.st (.pair (.int IntKind.i32) (.int IntKind.i32))))], []⟩, [((.exit 4), ⟨[(1, (.slice (.st (.pair (.int IntKind.i32) (.int IntKind.i32))))), (2, (.slice (.st (.pair (.int IntKind.i32) (.int IntKind.i32))))), (3, (.oad 0 0)), (7, (.ow 1)), (10, (.ow 2)), (11, (.int IntKind.i64)), (12, (.int IntKind.i32)), (44, (.osl 1)), (45, (.int IntKind.i64)), (46, (.int IntKind.i64))], [(3, (.st (.clo 33 .unit))), (7, (.int IntKind.i32)), (10, (.st (.pair (.int IntKind.i32) (.int IntKind.i32))))], []⟩)]⟩ else if i = 1140015 then some ⟨⟨[], [], []⟩, [(.normal, ⟨[(1, (.slice (.st (.pair (.int IntKind.i32) (.int IntKind.i32))))), (2, (.slice (.st (.pair (.int IntKind.i32) (.int IntKind.i32))))), (3, (.oad 0 0)), (7, (.ow 1)), (10, (.ow 2)), (11, (.int IntKind.i64)), (12, (.int IntKind.i32)), (44, (.osl 1)), (45, (.int IntKind.i64)), (46, (.int IntKind.i64))], [(3, (.st (.clo 33 .unit))), (7, (.int IntKind.i32)), (10, (.st (.pair (.int IntKind.i32) (.int IntKind.i32))))], []⟩), ((.exit 4), ⟨[(1, (.slice (.st (.pair (.int IntKind.i32) (.int IntKind.i32))))), (2, (.slice (.st (.pair (.int IntKind.i32) (.int IntKind.i32))))), (3, (.oad 0 0)), (7, (.ow 1)), (10, (.ow 2)), (11, (.int IntKind.i64)), (12, (.int IntKind.i32)), (44, (.osl 1)), (45, (.int IntKind.i64)), (46, (.int IntKind.i64))], [(3, (.st (.clo 33 .unit))), (7, (.int IntKind.i32)), (10, (.st (.pair (.int IntKind.i32) (.int IntKind.i32))))], []⟩)]⟩ else if i = 1030008 then some ⟨⟨[], [], []⟩, [(.normal, ⟨[(1, (.slice (.st (.pair (.int IntKind.i32) (.int IntKind.i32))))), (2, (.slice (.st (.pair (.int IntKind.i32) (.int IntKind.i32))))), (3, (.oad 0 0)), (7, (.ow 1))], [(3, (.st (.clo 33 .unit))), (7, (.int IntKind.i32))], []⟩)]⟩ else if i = 4 then some ⟨⟨[(1, (.slice (.st (.pair (.int IntKind.i32) (.int IntKind.i32))))), (2, (.slice (.st (.pair (.int IntKind.i32) (.int IntKind.i32))))), (3, (.oad 0 0)), (7, (.ow 1)), (21, (.slice (.st (.pair (.int IntKind.i32) (.int IntKind.i32))))), (22, (.int IntKind.i64)), (23, (.int IntKind.i64))], [(3, (.st (.clo 33 .unit))), (7, (.int IntKind.i32))], []⟩, [((.exit 0), ⟨[(1, (.slice (.st (.pair (.int IntKind.i32) (.int IntKind.i32))))), (2, (.slice (.st (.pair (.int IntKind.i32) (.int IntKind.i32))))), (3, (.oad 0 0)), (7, (.ow 1))], [(3, (.st (.clo 33 .unit))), (7, (.int IntKind.i32))], []⟩)]⟩ else none
def runUO_g : List (Nat × Ctr) := [(44, sortI_c), (45, compactI_c), (33, uF_c), (43, concat_c), (13, rNormO_c)]
theorem runUO_eq (v : PDen runUO_c.ps) : semF tbl (gam runUO_g) runUO_h fuelN 116 (bodyOf Try.f34) runUO_c.ps runUO_c.rs [6] v = runUO_c.g v := by kernel_rfl

/- 17: trema/rset.Union -/
def rUnionO (p0 : List (Int × Int)) (p1 : List (Int × Int)) : Option (Unit × (List (Int × Int) × Unit)) :=
 (Option.bind (runUO p0 p1) fun r1 =>
 some ((), (r1.2.1, ())))


def rUnionO_c : Ctr := ⟨[.ro (.slice (.st (.pair (.int IntKind.i32) (.int IntKind.i32)))), .ro (.slice (.st (.pair (.int IntKind.i32) (.int IntKind.i32))))], [.own (.st (.pair (.int IntKind.i32) (.int IntKind.i32)))], fun v => rUnionO v.1 v.2.1⟩
def rUnionO_h : Nat → Option LH := fun i => none
def rUnionO_g : List (Nat × Ctr) := [(34, runUO_c)]
theorem rUnionO_eq (v : PDen rUnionO_c.ps) : semF tbl (gam rUnionO_g) rUnionO_h fuelN 9 (bodyOf Try.f17) rUnionO_c.ps rUnionO_c.rs [4] v = rUnionO_c.g v := by kernel_rfl

/- 7: trema/tremalaw05.RsetKeeps -/
def lKeeps_s14 (a0 : List (Int × Int)) (a5 : List (Int × Int)) (a6 : List (Int × Int)) (a40 : Int) (a41 : Int) (g7 : List (Int × Int)) (g8 : List (Int × Int)) : Option (((List (Int × Int) × (List (Int × Int) × (List (Int × Int) × (Int × (Int × Unit))))) × (List (Int × Int) × (List (Int × Int) × Unit))) ⊕ ((List (Int × Int) × (List (Int × Int) × (List (Int × Int) × Unit))) × (List (Int × Int) × Unit))) :=
 bif (decide (a41 < a40)) then
 (Option.bind (lk g7 a41) fun _x15 =>
 (Option.bind (lk g7 a41) fun x16 =>
 some (.inl ((a0, (a5, (a6, (a40, ((IntKind.i64.wrap (a41 + (1 : Int))), ()))))), ((g7.set a41.toNat ((0 : Int), (0 : Int))), (g8, ()))))))
 else
 some (.inr ((a0, (a5, (a6, ()))), (g8, ())))

def lKeeps_s21 (a0 : List (Int × Int)) (a5 : List (Int × Int)) (a6 : List (Int × Int)) (a50 : Int) (a51 : Int) (g8 : List (Int × Int)) : Option (((List (Int × Int) × (List (Int × Int) × (List (Int × Int) × (Int × (Int × Unit))))) × (List (Int × Int) × Unit)) ⊕ ((List (Int × Int) × (List (Int × Int) × (List (Int × Int) × Unit))) × (List (Int × Int) × Unit))) :=
 bif (decide (a51 < a50)) then
 (Option.bind (lk g8 a51) fun _x22 =>
 (Option.bind (lk g8 a51) fun x23 =>
 some (.inl ((a0, (a5, (a6, (a50, ((IntKind.i64.wrap (a51 + (1 : Int))), ()))))), ((g8.set a51.toNat ((0 : Int), (0 : Int))), ())))))
 else
 some (.inr ((a0, (a5, (a6, ()))), (g8, ())))

def lKeeps_s28 (a0 : List (Int × Int)) (a5 : List (Int × Int)) (a6 : List (Int × Int)) (a59 : Int) (g8 : List (Int × Int)) : Option (((List (Int × Int) × (List (Int × Int) × (List (Int × Int) × (Int × Unit)))) × (List (Int × Int) × Unit)) ⊕ ((List (Int × Int) × (List (Int × Int) × (List (Int × Int) × Unit))) × Unit)) :=
 bif (decide (a59 < (5 : Int))) then
 bif (roomOk (g8.length + [((0 : Int), (0 : Int))].length) 8) then
 some (.inl ((a0, (a5, (a6, ((IntKind.i64.wrap (a59 + (1 : Int))), ())))), ((g8 ++ [((0 : Int), (0 : Int))]), ())))
 else none
 else
 some (.inr ((a0, (a5, (a6, ()))), ()))

def lKeeps (p0 : List (Int × Int)) (p1 : List (Int × Int)) : Option (Unit × (Bool × Unit)) :=
 (Option.bind (show Option (((Bool × Unit) × Unit) ⊕ ((List (Int × Int) × (List (Int × Int) × Unit)) × Unit)) from
 (Option.bind (fixed) fun r2 =>
 bif (!r2.2.1) then
 some (.inl ((false, ()), ()))
 else
 some (.inr ((p0, (p1, ())), ())))) fun y3 =>
 (match y3 with
 | .inl y3 =>
 some ((), (y3.1.1, ()))
 | .inr y3 =>
 bif (mkOk 8 (0 : Int) (IntKind.i64.wrap ((y3.1.1.length : Int) + (2 : Int)))) then
 let l4 := (List.replicate (Int.toNat (IntKind.i64.wrap ((y3.1.1.length : Int) + (2 : Int)))) ((0 : Int), (0 : Int)))
 bif (decide (0 + (Int.toNat (0 : Int)) + y3.1.1.length ≤ l4.length)) then
 bif (inB (0 : Int) (IntKind.i64.wrap ((y3.1.1.length : Int) + (2 : Int))) (((putL l4 (0 + (Int.toNat (0 : Int))) y3.1.1).length - 0 : Nat) : Int)) then
 let v5 := ((IntKind.i64.wrap ((y3.1.1.length : Int) + (2 : Int))) - (0 : Int)).toNat
 bif (inR (y3.1.1.length : Int) v5) then
 (Option.bind (lk (putL l4 (0 + (Int.toNat (0 : Int))) y3.1.1) (plusI (0 + (0 : Int).toNat) (y3.1.1.length : Int))) fun x6 =>
 let l7 := ((putL l4 (0 + (Int.toNat (0 : Int))) y3.1.1).set (plusI (0 + (0 : Int).toNat) (y3.1.1.length : Int)).toNat ((77 : Int), x6.2))
 (Option.bind (rUnionO (((l7).drop 0).take ((Int.toNat (0 : Int)) + y3.1.1.length)) y3.1.2.1) fun r8 =>
 (Option.bind (rNormO (((l7).drop 0).take ((Int.toNat (0 : Int)) + y3.1.1.length))) fun r9 =>
 (Option.bind (rNot (((l7).drop 0).take ((Int.toNat (0 : Int)) + y3.1.1.length))) fun r10 =>
 (Option.bind (rMeet y3.1.2.1 (((l7).drop 0).take ((Int.toNat (0 : Int)) + y3.1.1.length))) fun r11 =>
 (Option.bind (show Option ((List (Int × Int) × (List (Int × Int) × (List (Int × Int) × Unit))) × (List (Int × Int) × Unit)) from
 (Option.bind (iterN (fun x => lKeeps_s14 x.1.1 x.1.2.1 x.1.2.2.1 x.1.2.2.2.1 x.1.2.2.2.2.1 x.2.1 x.2.2.1) fuelN ((y3.1.1, ((((l7).drop 0).take ((Int.toNat (0 : Int)) + y3.1.1.length)), ((((l7).drop (0 + (0 : Int).toNat)).take v5), ((r8.2.1.length : Int), ((0 : Int), ()))))), (r8.2.1, (r9.2.1, ())))) fun y17 =>
 some ((y17.1.1, (y17.1.2.1, (y17.1.2.2.1, ()))), (y17.2.1, ())))) fun y18 =>
 (Option.bind (show Option ((List (Int × Int) × (List (Int × Int) × (List (Int × Int) × Unit))) × (List (Int × Int) × Unit)) from
 (Option.bind (iterN (fun x => lKeeps_s21 x.1.1 x.1.2.1 x.1.2.2.1 x.1.2.2.2.1 x.1.2.2.2.2.1 x.2.1) fuelN ((y18.1.1, (y18.1.2.1, (y18.1.2.2.1, ((y18.2.1.length : Int), ((0 : Int), ()))))), (y18.2.1, ()))) fun y24 =>
 some ((y24.1.1, (y24.1.2.1, (y24.1.2.2.1, ()))), (y24.2.1, ())))) fun y25 =>
 (Option.bind (show Option ((List (Int × Int) × (List (Int × Int) × (List (Int × Int) × Unit))) × Unit) from
 (Option.bind (iterN (fun x => lKeeps_s28 x.1.1 x.1.2.1 x.1.2.2.1 x.1.2.2.2.1 x.2.1) fuelN ((y25.1.1, (y25.1.2.1, (y25.1.2.2.1, ((0 : Int), ())))), (y25.2.1, ()))) fun y29 =>
 some ((y29.1.1, (y29.1.2.1, (y29.1.2.2.1, ()))), ()))) fun y30 =>
 (Option.bind (refSame y30.1.2.1 y30.1.1) fun r31 =>
 bif r31.2.1 then
 (Option.bind (lk y30.1.2.2.1 (y30.1.1.length : Int)) fun x32 =>
 bif (x32.1 == (77 : Int)) then
 (Option.bind (rNormO y30.1.2.1) fun r33 =>
 (Option.bind (refNorm y30.1.1) fun r34 =>
 (Option.bind (refSame r33.2.1 r34.2.1) fun r35 =>
 some ((), (r35.2.1, ())))))
 else
 some ((), (false, ())))
 else
 some ((), (false, ())))))))))))
 else none
 else none
 else none
 else none))


def lKeeps_c : Ctr := ⟨[.ro (.slice (.st (.pair (.int IntKind.i32) (.int IntKind.i32)))), .ro (.slice (.st (.pair (.int IntKind.i32) (.int IntKind.i32))))], [.val .bool], fun v => lKeeps v.1 v.2.1⟩
def lKeeps_h : Nat → Option LH := fun i => if i = 1190023 then some ⟨⟨[], [], []⟩, [(.normal, ⟨[(0, (.slice (.st (.pair (.int IntKind.i32) (.int IntKind.i32))))), (5, (.slice (.st (.pair (.int IntKind.i32) (.int IntKind.i32))))), (6, (.slice (.st (.pair (.int IntKind.i32) (.int IntKind.i32)))))], [], []⟩)]⟩ else if i = 20 then some ⟨⟨[(0, (.slice (.st (.pair (.int IntKind.i32) (.int IntKind.i32))))), (5, (.slice (.st (.pair (.int IntKind.i32) (.int IntKind.i32))))), (6, (.slice (.st (.pair (.int IntKind.i32) (.int IntKind.i32))))), (8, (.ow 0)), (59, (.int IntKind.i64))], [(8, (.st (.pair (.int IntKind.i32) (.int IntKind.i32))))], []⟩, [((.exit 4), ⟨[(0, (.slice (.st (.pair (.int IntKind.i32) (.int IntKind.i32))))), (5, (.slice (.st (.pair (.int IntKind.i32) (.int IntKind.i32))))), (6, (.slice (.st (.pair (.int IntKind.i32) (.int IntKind.i32)))))], [], []⟩)]⟩ else if i = 1140019 then some ⟨⟨[], [], []⟩, [(.normal, ⟨[(0, (.slice (.st (.pair (.int IntKind.i32) (.int IntKind.i32))))), (5, (.slice (.st (.pair (.int IntKind.i32) (.int IntKind.i32))))), (6, (.slice (.st (.pair (.int IntKind.i32) (.int IntKind.i32))))), (8, (.ow 0))], [(8, (.st (.pair (.int IntKind.i32) (.int IntKind.i32))))], []⟩)]⟩ else if i = 15 then some ⟨⟨[(0, (.slice (.st (.pair (.int IntKind.i32) (.int IntKind.i32))))), (5, (.slice (.st (.pair (.int IntKind.i32) (.int IntKind.i32))))), (6, (.slice (.st (.pair (.int IntKind.i32) (.int IntKind.i32))))), (8, (.ow 0)), (50, (.int IntKind.i64)), (51, (.int IntKind.i64))], [(8, (.st (.pair (.int IntKind.i32) (.int IntKind.i32))))], []⟩, [((.exit 2), ⟨[(0, (.slice (.st (.pair (.int IntKind.i32) (.int IntKind.i32))))), (5, (.slice (.st (.pair (.int IntKind.i32) (.int IntKind.i32))))), (6, (.slice (.st (.pair (.int IntKind.i32) (.int IntKind.i32))))), (8, (.ow 0))], [(8, (.st (.pair (.int IntKind.i32) (.int IntKind.i32))))], []⟩)]⟩ else if i = 1090014 then some ⟨⟨[], [], []⟩, [(.normal, ⟨[(0, (.slice (.st (.pair (.int IntKind.i32) (.int IntKind.i32))))), (5, (.slice (.st (.pair (.int IntKind.i32) (.int IntKind.i32))))), (6, (.slice (.st (.pair (.int IntKind.i32) (.int IntKind.i32))))), (8, (.ow 0))], [(8, (.st (.pair (.int IntKind.i32) (.int IntKind.i32))))], []⟩)]⟩ else if i = 10 then some ⟨⟨[(0, (.slice (.st (.pair (.int IntKind.i32) (.int IntKind.i32))))), (5, (.slice (.st (.pair (.int IntKind.i32) (.int IntKind.i32))))), (6, (.slice (.st (.pair (.int IntKind.i32) (.int IntKind.i32))))), (7, (.ow 0)), (8, (.ow 1)), (40, (.int IntKind.i64)), (41, (.int IntKind.i64))], [(7, (.st (.pair (.int IntKind.i32) (.int IntKind.i32)))), (8, (.st (.pair (.int IntKind.i32) (.int IntKind.i32))))], []⟩, [((.exit 0), ⟨[(0, (.slice (.st (.pair (.int IntKind.i32) (.int IntKind.i32))))), (5, (.slice (.st (.pair (.int IntKind.i32) (.int IntKind.i32))))), (6, (.slice (.st (.pair (.int IntKind.i32) (.int IntKind.i32))))), (8, (.ow 0))], [(8, (.st (.pair (.int IntKind.i32) (.int IntKind.i32))))], []⟩)]⟩ else if i = 1010003 then some ⟨⟨[], [], []⟩, [(.ret, ⟨[(4, .bool)], [], []⟩), (.normal, ⟨[(0, (.slice (.st (.pair (.int IntKind.i32) (.int IntKind.i32))))), (1, (.slice (.st (.pair (.int IntKind.i32) (.int IntKind.i32)))))], [], []⟩)]⟩ else none
def lKeeps_g : List (Nat × Ctr) := [(12, refSame_c), (11, refNorm_c), (19, rMeet_c), (23, rNot_c), (10, fixed_c), (13, rNormO_c), (17, rUnionO_c)]
theorem lKeeps_eq (v : PDen lKeeps_c.ps) : semF tbl (gam lKeeps_g) lKeeps_h fuelN 85 (bodyOf Try.f7) lKeeps_c.ps lKeeps_c.rs [4] v = lKeeps_c.g v := by kernel_rfl

end
end Go.Vs.Rs
