/- The fixed cases: computed. -/
import Derived.Test.YtfmhkcidechgdaaGreatVtPp6
set_option linter.unusedVariables false
set_option maxRecDepth 100000
namespace Go.Vt.Pk
open Go Go.Vt Go.Vt.Rm
abbrev sg1 (c : Int) : TSet := ([(c,c)],[],[])
abbrev no1 : TSet := ([],[],[])
abbrev pA : List In := [(2,no1,1,3),(1,sg1 97,0,0),(3,no1,0,0),(1,sg1 98,0,0),(6,no1,0,0)]
abbrev pB : List In := [(1,sg1 97,0,0),(6,no1,0,0)]
abbrev pC : List In := [(2,no1,1,3),(1,sg1 97,0,0),(3,no1,5,0),(1,sg1 97,0,0),(1,sg1 98,0,0),(6,no1,0,0)]
abbrev pD : List In := [(2,no1,1,4),(1,sg1 97,0,0),(1,sg1 98,0,0),(3,no1,0,0),(6,no1,0,0)]
abbrev wA : Ws := [[97],[97],[98],[97]]
abbrev fuK (k : Nat) : Inhabited FuelW := @Inhabited.mk FuelW (k + 1024 : Nat)
theorem kA1 (k : Nat) : (@long10 (fuK k) pA wA 0 true false).map (fun r => (r.2.1, r.2.2.1, r.2.2.2.1)) = some (3, true, false) := by kernel_rfl
theorem kA2 (k : Nat) : (@long10 (fuK k) pA wA 3 true false).map (fun r => (r.2.2.1, r.2.2.2.1)) = some (false, true) := by kernel_rfl
theorem kB1 (k : Nat) : (@long10 (fuK k) pB [[98]] 0 true true).map (fun r => r.2.2.2.2.1) = some 1 := by kernel_rfl
theorem kC1 (k : Nat) : @all10 (fuK k) pC [[97],[98],[97]] = some ((), [(0,2,0,0),(2,3,0,0)], ()) := by kernel_rfl
theorem kD1 (k : Nat) : (@long10 (fuK k) pD [[97],[98],[97],[98]] 0 true true).map (fun r => (r.2.1, r.2.2.1)) = some (4, true) := by kernel_rfl
theorem oA (k : Nat) : @of10 (fuK k) [97,42,98] = some ((), pA, ()) := by kernel_rfl
theorem oB (k : Nat) : @of10 (fuK k) [97] = some ((), pB, ()) := by kernel_rfl
theorem oC (k : Nat) : @of10 (fuK k) [97,124,97,98] = some ((), pC, ()) := by kernel_rfl
theorem oD (k : Nat) : @of10 (fuK k) [40,97,98,41,42] = some ((), pD, ()) := by kernel_rfl
theorem mA (k : Nat) : @may8 (fuK k) pA = some ((), true, ()) := by kernel_rfl
theorem mB (k : Nat) : @may8 (fuK k) pB = some ((), true, ()) := by kernel_rfl
theorem mC (k : Nat) : @may8 (fuK k) pC = some ((), true, ()) := by kernel_rfl
theorem mD (k : Nat) : @may8 (fuK k) pD = some ((), true, ()) := by kernel_rfl
theorem small_sets {p : List In} (h : (p.all fun i => decide (i.2.1.1.length ≤ 10) && (decide (i.2.1.2.1.length ≤ 10) && decide (i.2.1.2.2 = []))) = true) : ∀ i ∈ p, OkS 20000000 i.2.1 := fun i hi => by
  have := List.all_eq_true.1 h i hi
  simp only [Bool.and_eq_true, decide_eq_true_eq] at this
  obtain ⟨h1, h2, h3⟩ := this
  refine ⟨by omega, by omega, by rw [h3]; simp, fun t ht => by rw [h3] at ht; cases ht⟩
theorem small_txt {w : Ws} (h : (w.all fun t => decide (t.length ≤ 10)) = true) : ∀ t ∈ w, t.length ≤ 10000000 := fun t ht => by
  have := List.all_eq_true.1 h t ht
  simp only [decide_eq_true_eq] at this
  omega
theorem may_of {p : List In} (hl : p.length ≤ 10000000) (hs : ∀ i ∈ p, OkS 20000000 i.2.1) (h : may8 p = some ((), true, ())) : mayP p = true := by
  rw [may8_is p hl hs] at h
  simpa using h
theorem fixed_is : fixed = some ((), (true, ())) := by
  obtain ⟨k, hk⟩ := fuel_split
  have hk : fuelI = fuK k := hk
  have sA := small_sets (p := pA) (by decide)
  have sB := small_sets (p := pB) (by decide)
  have sC := small_sets (p := pC) (by decide)
  have sD := small_sets (p := pD) (by decide)
  have iA : In8 pA wA := ⟨by decide, sA, by decide, small_txt (by decide)⟩
  have iB : In8 pB [[98]] := ⟨by decide, sB, by decide, small_txt (by decide)⟩
  have iC : In8 pC [[97],[98],[97]] := ⟨by decide, sC, by decide, small_txt (by decide)⟩
  have iD : In8 pD [[97],[98],[97],[98]] := ⟨by decide, sD, by decide, small_txt (by decide)⟩
  have i0 : In8 [] wA := ⟨by decide, (fun i hi => nomatch hi), by decide, small_txt (by decide)⟩
  have eA := may_of iA.len iA.sets (hk ▸ mA k)
  have eB := may_of iB.len iB.sets (hk ▸ mB k)
  have eC := may_of iC.len iC.sets (hk ▸ mC k)
  have eD := may_of iD.len iD.sets (hk ▸ mD k)
  have e0 : ¬ fitB [] wA 0 := fun h => by have := h.1; simp [mayP] at this
  have fA0 : fitB pA wA 0 := ⟨eA, by decide, by decide⟩
  have fA3 : fitB pA wA 3 := ⟨eA, by decide, by decide⟩
  have fB0 : fitB pB [[98]] 0 := ⟨eB, by decide, by decide⟩
  have gA := iA.gd eA
  have gB := iB.gd eB
  have gC := iC.gd eC
  have gD := iD.gd eD
  have vA1 := kA1 k
  have vA2 := kA2 k
  have vB1 := kB1 k
  have vC1 := kC1 k
  have vD1 := kD1 k
  have oA := oA k
  have oB := oB k
  have oC := oC k
  have oD := oD k
  rw [← hk] at vA1 vA2 vB1 vC1 vD1 oA oB oC oD
  have lA1 := long10_is pA wA 0 true false gA (by decide)
  have lA2 := long10_is pA wA 3 true false gA (by decide)
  have lB1 := long10_is pB [[98]] 0 true true gB (by decide)
  have lD1 := long10_is pD [[97],[98],[97],[98]] 0 true true gD (by decide)
  rw [show (((0 : Nat)) : Int) = 0 from rfl] at lA1 lB1 lD1
  rw [show (((3 : Nat)) : Int) = 3 from rfl] at lA2
  rw [lA1] at vA1
  rw [lA2] at vA2
  rw [lB1] at vB1
  rw [all10_is _ _ gC] at vC1
  rw [lD1] at vD1
  simp only [Option.map_some, Option.some.injEq, Prod.mk.injEq, and_true, true_and] at vA1 vA2 vB1 vC1 vD1
  have p1 := pLongest_yes (beg := true) (fin := false) iA fA0
  have p2 := pLongest_yes (beg := true) (fin := false) iA fA3
  have p3 := pAll_yes iC eC
  have p4 := pWhole_yes iD eD
  have p5 := pLongest_no (beg := true) (fin := true) i0 e0
  have p6 := pSteps_yes (beg := true) (fin := true) iB fB0
  simp only [Int.toNat_zero, show Int.toNat 3 = 3 from rfl, vA1, vA2, vB1, vC1, vD1] at p1 p2 p3 p4 p6
  simp only [fixed, oA, oB, oC, oD, p1, p2, p3, p4, p5, p6, Option.bind_some]
  rfl
end Go.Vt.Pk
