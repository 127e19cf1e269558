/- Each function of the program keeps what its values' function promises. -/
import Derived.Test.YtaeobljnmfbdmaaVuMg1
import Derived.Test.YtaeobljnmfbdmaaVuTab
import Derived.Test.YtaeobljnmfbdmaaProg
set_option linter.unusedVariables false
set_option maxRecDepth 100000
namespace Go.Vu.Mg
noncomputable section
open Go Go.Vu Go.Proofs
theorem tblOk : TabOk Try.prog tbl := tabB_ok (by kernel_rfl)
theorem mixed : Try.prog.follows .mixedOrders = true := by kernel_rfl
theorem isNaN_ok : isNaN_c.Ok Try.prog 60 :=
 printed (is := [2]) (cells := []) tblOk mixed Try.func60 (by kernel_rfl) Try.ntmps60 (by kernel_rfl) (by kernel_rfl) (all_nil) isNaN_eq
theorem cmpLess_ok : cmpLess_c.Ok Try.prog 47 :=
 printed (is := [4]) (cells := []) tblOk mixed Try.func47 (by kernel_rfl) Try.ntmps47 (by kernel_rfl) (by kernel_rfl) (all_cons ⟨isNaN_ok, by kernel_rfl⟩ (all_nil)) cmpLess_eq
theorem cmpLess_is (x y : Int) : cmpLess x y = i_less x y := by simp [cmpLess, isNaN, i_less]
theorem i_less_ok : i_less_c.Ok Try.prog 47 := fun v r h => cmpLess_ok v r ((cmpLess_is v.1 v.2.1).trans h)
theorem postLess_ok : postLess_c.Ok Try.prog 42 :=
 printed (is := [4]) (cells := []) tblOk mixed Try.func42 (by kernel_rfl) Try.ntmps42 (by kernel_rfl) (by kernel_rfl) (all_nil) postLess_eq
theorem postLess_is (p q : Int × Option (Nat × Nat × Nat)) : postLess p q = p_cmp p q := by
 simp only [postLess, p_cmp, cmpd]
 by_cases h1 : p.1 < q.1 <;> simp [h1]
theorem p_cmp_ok : p_cmp_c.Ok Try.prog 42 := fun v r h => postLess_ok v r ((postLess_is v.1 v.2.1).trans h)
theorem compactI_ok : compactI_c.Ok Try.prog 40 :=
 printed (is := [2]) (cells := []) tblOk mixed Try.func40 (by kernel_rfl) Try.ntmps40 (by kernel_rfl) (by kernel_rfl) (all_nil) compactI_eq
theorem i_len64_ok : i_len64_c.Ok Try.prog 59 :=
 printed (is := [2]) (cells := []) tblOk mixed Try.func59 (by kernel_rfl) Try.ntmps59 (by kernel_rfl) (by kernel_rfl) (all_nil) i_len64_eq
theorem i_bitsLen_ok : i_bitsLen_c.Ok Try.prog 45 :=
 printed (is := [2]) (cells := []) tblOk mixed Try.func45 (by kernel_rfl) Try.ntmps45 (by kernel_rfl) (by kernel_rfl) (all_cons ⟨i_len64_ok, by kernel_rfl⟩ (all_nil)) i_bitsLen_eq
theorem i_nextPow_ok : i_nextPow_c.Ok Try.prog 70 :=
 printed (is := [2]) (cells := []) tblOk mixed Try.func70 (by kernel_rfl) Try.ntmps70 (by kernel_rfl) (by kernel_rfl) (all_cons ⟨i_bitsLen_ok, by kernel_rfl⟩ (all_nil)) i_nextPow_eq
theorem i_xorNext_ok : i_xorNext_c.Ok Try.prog 71 :=
 printed (is := [2]) (cells := []) tblOk mixed Try.func71 (by kernel_rfl) Try.ntmps71 (by kernel_rfl) (by kernel_rfl) (all_nil) i_xorNext_eq
theorem i_insSort_ok : i_insSort_c.Ok Try.prog 50 :=
 printed (is := []) (cells := []) tblOk mixed Try.func50 (by kernel_rfl) Try.ntmps50 (by kernel_rfl) (by kernel_rfl) (all_cons ⟨i_less_ok, by kernel_rfl⟩ (all_nil)) i_insSort_eq
theorem i_siftDown_ok : i_siftDown_c.Ok Try.prog 69 :=
 printed (is := []) (cells := []) tblOk mixed Try.func69 (by kernel_rfl) Try.ntmps69 (by kernel_rfl) (by kernel_rfl) (all_cons ⟨i_less_ok, by kernel_rfl⟩ (all_nil)) i_siftDown_eq
theorem i_heapSort_ok : i_heapSort_c.Ok Try.prog 51 :=
 printed (is := []) (cells := []) tblOk mixed Try.func51 (by kernel_rfl) Try.ntmps51 (by kernel_rfl) (by kernel_rfl) (all_cons ⟨i_siftDown_ok, by kernel_rfl⟩ (all_nil)) i_heapSort_eq
theorem i_breakPat_ok : i_breakPat_c.Ok Try.prog 52 :=
 printed (is := []) (cells := []) tblOk mixed Try.func52 (by kernel_rfl) Try.ntmps52 (by kernel_rfl) (by kernel_rfl) (all_cons ⟨i_nextPow_ok, by kernel_rfl⟩ (all_cons ⟨i_xorNext_ok, by kernel_rfl⟩ (all_nil))) i_breakPat_eq
theorem i_order2_ok : i_order2_c.Ok Try.prog 77 :=
 printed (is := [8, 9]) (cells := []) tblOk mixed Try.func77 (by kernel_rfl) Try.ntmps77 (by kernel_rfl) (by kernel_rfl) (all_cons ⟨i_less_ok, by kernel_rfl⟩ (all_nil)) i_order2_eq
theorem i_median_ok : i_median_c.Ok Try.prog 73 :=
 printed (is := [10]) (cells := []) tblOk mixed Try.func73 (by kernel_rfl) Try.ntmps73 (by kernel_rfl) (by kernel_rfl) (all_cons ⟨i_order2_ok, by kernel_rfl⟩ (all_nil)) i_median_eq
theorem i_medianAdj_ok : i_medianAdj_c.Ok Try.prog 72 :=
 printed (is := [6]) (cells := []) tblOk mixed Try.func72 (by kernel_rfl) Try.ntmps72 (by kernel_rfl) (by kernel_rfl) (all_cons ⟨i_median_ok, by kernel_rfl⟩ (all_nil)) i_medianAdj_eq
theorem i_choosePiv_ok : i_choosePiv_c.Ok Try.prog 53 :=
 printed (is := [6, 7]) (cells := []) tblOk mixed Try.func53 (by kernel_rfl) Try.ntmps53 (by kernel_rfl) (by kernel_rfl) (all_cons ⟨i_median_ok, by kernel_rfl⟩ (all_cons ⟨i_medianAdj_ok, by kernel_rfl⟩ (all_nil))) i_choosePiv_eq
theorem i_revRange_ok : i_revRange_c.Ok Try.prog 54 :=
 printed (is := []) (cells := []) tblOk mixed Try.func54 (by kernel_rfl) Try.ntmps54 (by kernel_rfl) (by kernel_rfl) (all_nil) i_revRange_eq
theorem i_partIns_ok : i_partIns_c.Ok Try.prog 55 :=
 printed (is := [6]) (cells := []) tblOk mixed Try.func55 (by kernel_rfl) Try.ntmps55 (by kernel_rfl) (by kernel_rfl) (all_cons ⟨i_less_ok, by kernel_rfl⟩ (all_nil)) i_partIns_eq
theorem i_partEq_ok : i_partEq_c.Ok Try.prog 56 :=
 printed (is := [8]) (cells := []) tblOk mixed Try.func56 (by kernel_rfl) Try.ntmps56 (by kernel_rfl) (by kernel_rfl) (all_cons ⟨i_less_ok, by kernel_rfl⟩ (all_nil)) i_partEq_eq
theorem i_partition_ok : i_partition_c.Ok Try.prog 57 :=
 printed (is := [8, 9]) (cells := []) tblOk mixed Try.func57 (by kernel_rfl) Try.ntmps57 (by kernel_rfl) (by kernel_rfl) (all_cons ⟨i_less_ok, by kernel_rfl⟩ (all_nil)) i_partition_eq
theorem i_pdq0_ok (i_pdqR : List Int → Int → Int → Int → Option (List Int × Unit)) (hi_pdqR : (i_pdqR_cR i_pdqR).Ok Try.prog 44) : (i_pdq0_c i_pdqR).Ok Try.prog 44 :=
 printed (is := []) (cells := []) tblOk mixed Try.func44 (by kernel_rfl) Try.ntmps44 (by kernel_rfl) (by kernel_rfl) (all_cons ⟨i_less_ok, by kernel_rfl⟩ (all_cons ⟨i_insSort_ok, by kernel_rfl⟩ (all_cons ⟨i_heapSort_ok, by kernel_rfl⟩ (all_cons ⟨i_breakPat_ok, by kernel_rfl⟩ (all_cons ⟨i_choosePiv_ok, by kernel_rfl⟩ (all_cons ⟨i_revRange_ok, by kernel_rfl⟩ (all_cons ⟨i_partIns_ok, by kernel_rfl⟩ (all_cons ⟨i_partEq_ok, by kernel_rfl⟩ (all_cons ⟨i_partition_ok, by kernel_rfl⟩ (all_cons ⟨hi_pdqR, by kernel_rfl⟩ (all_nil))))))))))) (i_pdq0_eq i_pdqR)
theorem i_pdqR_ok : ∀ N, (i_pdqR_cR (Srt.pdqN i_less N)).Ok Try.prog 44
 | 0 => fun v r h => by cases h
 | N + 1 => i_pdq0_ok (Srt.pdqN i_less N) (i_pdqR_ok N)
theorem i_sortG_ok (i_pdqR : List Int → Int → Int → Int → Option (List Int × Unit)) (hi_pdqR : (i_pdqR_cR i_pdqR).Ok Try.prog 44) : (i_sortG_c i_pdqR).Ok Try.prog 35 :=
 printed (is := []) (cells := []) tblOk mixed Try.func35 (by kernel_rfl) Try.ntmps35 (by kernel_rfl) (by kernel_rfl) (all_cons ⟨i_bitsLen_ok, by kernel_rfl⟩ (all_cons ⟨hi_pdqR, by kernel_rfl⟩ (all_nil))) (i_sortG_eq i_pdqR)
theorem sortI_ok : sortI_c.Ok Try.prog 35 := ok_of fun v r h => ⟨_, i_sortG_ok (Srt.pdqN i_less (List.length v.1 + 1)) (i_pdqR_ok _), h⟩
theorem p_insSort_ok : p_insSort_c.Ok Try.prog 61 :=
 printed (is := []) (cells := []) tblOk mixed Try.func61 (by kernel_rfl) Try.ntmps61 (by kernel_rfl) (by kernel_rfl) (all_cons ⟨p_cmp_ok, by kernel_rfl⟩ (all_nil)) p_insSort_eq
theorem p_siftDown_ok : p_siftDown_c.Ok Try.prog 74 :=
 printed (is := []) (cells := []) tblOk mixed Try.func74 (by kernel_rfl) Try.ntmps74 (by kernel_rfl) (by kernel_rfl) (all_cons ⟨p_cmp_ok, by kernel_rfl⟩ (all_nil)) p_siftDown_eq
theorem p_heapSort_ok : p_heapSort_c.Ok Try.prog 62 :=
 printed (is := []) (cells := []) tblOk mixed Try.func62 (by kernel_rfl) Try.ntmps62 (by kernel_rfl) (by kernel_rfl) (all_cons ⟨p_siftDown_ok, by kernel_rfl⟩ (all_nil)) p_heapSort_eq
theorem p_breakPat_ok : p_breakPat_c.Ok Try.prog 63 :=
 printed (is := []) (cells := []) tblOk mixed Try.func63 (by kernel_rfl) Try.ntmps63 (by kernel_rfl) (by kernel_rfl) (all_cons ⟨i_nextPow_ok, by kernel_rfl⟩ (all_cons ⟨i_xorNext_ok, by kernel_rfl⟩ (all_nil))) p_breakPat_eq
theorem p_order2_ok : p_order2_c.Ok Try.prog 78 :=
 printed (is := [10, 11]) (cells := []) tblOk mixed Try.func78 (by kernel_rfl) Try.ntmps78 (by kernel_rfl) (by kernel_rfl) (all_cons ⟨p_cmp_ok, by kernel_rfl⟩ (all_nil)) p_order2_eq
theorem p_median_ok : p_median_c.Ok Try.prog 76 :=
 printed (is := [12]) (cells := []) tblOk mixed Try.func76 (by kernel_rfl) Try.ntmps76 (by kernel_rfl) (by kernel_rfl) (all_cons ⟨p_order2_ok, by kernel_rfl⟩ (all_nil)) p_median_eq
theorem p_medianAdj_ok : p_medianAdj_c.Ok Try.prog 75 :=
 printed (is := [8]) (cells := []) tblOk mixed Try.func75 (by kernel_rfl) Try.ntmps75 (by kernel_rfl) (by kernel_rfl) (all_cons ⟨p_median_ok, by kernel_rfl⟩ (all_nil)) p_medianAdj_eq
theorem p_choosePiv_ok : p_choosePiv_c.Ok Try.prog 64 :=
 printed (is := [8, 9]) (cells := []) tblOk mixed Try.func64 (by kernel_rfl) Try.ntmps64 (by kernel_rfl) (by kernel_rfl) (all_cons ⟨p_median_ok, by kernel_rfl⟩ (all_cons ⟨p_medianAdj_ok, by kernel_rfl⟩ (all_nil))) p_choosePiv_eq
theorem p_revRange_ok : p_revRange_c.Ok Try.prog 65 :=
 printed (is := []) (cells := []) tblOk mixed Try.func65 (by kernel_rfl) Try.ntmps65 (by kernel_rfl) (by kernel_rfl) (all_nil) p_revRange_eq
theorem p_partIns_ok : p_partIns_c.Ok Try.prog 66 :=
 printed (is := [8]) (cells := []) tblOk mixed Try.func66 (by kernel_rfl) Try.ntmps66 (by kernel_rfl) (by kernel_rfl) (all_cons ⟨p_cmp_ok, by kernel_rfl⟩ (all_nil)) p_partIns_eq
theorem p_partEq_ok : p_partEq_c.Ok Try.prog 67 :=
 printed (is := [10]) (cells := []) tblOk mixed Try.func67 (by kernel_rfl) Try.ntmps67 (by kernel_rfl) (by kernel_rfl) (all_cons ⟨p_cmp_ok, by kernel_rfl⟩ (all_nil)) p_partEq_eq
theorem p_partition_ok : p_partition_c.Ok Try.prog 68 :=
 printed (is := [10, 11]) (cells := []) tblOk mixed Try.func68 (by kernel_rfl) Try.ntmps68 (by kernel_rfl) (by kernel_rfl) (all_cons ⟨p_cmp_ok, by kernel_rfl⟩ (all_nil)) p_partition_eq
theorem p_pdq0_ok (p_pdqR : List (Int × Option (Nat × Nat × Nat)) → Int → Int → Int → Option (List (Int × Option (Nat × Nat × Nat)) × Unit)) (hp_pdqR : (p_pdqR_cR p_pdqR).Ok Try.prog 49) : (p_pdq0_c p_pdqR).Ok Try.prog 49 :=
 printed (is := []) (cells := []) tblOk mixed Try.func49 (by kernel_rfl) Try.ntmps49 (by kernel_rfl) (by kernel_rfl) (all_cons ⟨p_cmp_ok, by kernel_rfl⟩ (all_cons ⟨p_insSort_ok, by kernel_rfl⟩ (all_cons ⟨p_heapSort_ok, by kernel_rfl⟩ (all_cons ⟨p_breakPat_ok, by kernel_rfl⟩ (all_cons ⟨p_choosePiv_ok, by kernel_rfl⟩ (all_cons ⟨p_revRange_ok, by kernel_rfl⟩ (all_cons ⟨p_partIns_ok, by kernel_rfl⟩ (all_cons ⟨p_partEq_ok, by kernel_rfl⟩ (all_cons ⟨p_partition_ok, by kernel_rfl⟩ (all_cons ⟨hp_pdqR, by kernel_rfl⟩ (all_nil))))))))))) (p_pdq0_eq p_pdqR)
theorem p_pdqR_ok : ∀ N, (p_pdqR_cR (Srt.pdqN p_less N)).Ok Try.prog 49
 | 0 => fun v r h => by cases h
 | N + 1 => p_pdq0_ok (Srt.pdqN p_less N) (p_pdqR_ok N)
theorem p_sortG_ok (p_pdqR : List (Int × Option (Nat × Nat × Nat)) → Int → Int → Int → Option (List (Int × Option (Nat × Nat × Nat)) × Unit)) (hp_pdqR : (p_pdqR_cR p_pdqR).Ok Try.prog 49) : (p_sortG_c p_pdqR).Ok Try.prog 41 :=
 printed (is := []) (cells := []) tblOk mixed Try.func41 (by kernel_rfl) Try.ntmps41 (by kernel_rfl) (by kernel_rfl) (all_cons ⟨i_bitsLen_ok, by kernel_rfl⟩ (all_cons ⟨hp_pdqR, by kernel_rfl⟩ (all_nil))) (p_sortG_eq p_pdqR)
theorem sortP_ok : sortP_c.Ok Try.prog 41 := ok_of fun v r h => ⟨_, p_sortG_ok (Srt.pdqN p_less (List.length v.1 + 1)) (p_pdqR_ok _), h⟩
theorem refSorted0_ok (refSorted : List Int → Option (Unit × (List Int × Unit))) (hrefSorted : (refSorted_cR refSorted).Ok Try.prog 27) : (refSorted0_c refSorted).Ok Try.prog 27 :=
 printed (is := [2]) (cells := []) tblOk mixed Try.func27 (by kernel_rfl) Try.ntmps27 (by kernel_rfl) (by kernel_rfl) (all_cons ⟨hrefSorted, by kernel_rfl⟩ (all_nil)) (refSorted0_eq refSorted)
theorem refSortedR_ok : ∀ N, (refSorted_cR (refSortedN N)).Ok Try.prog 27
 | 0 => fun v r h => by cases h
 | N + 1 => refSorted0_ok (refSortedN N) (refSortedR_ok N)
theorem refSorted_ok : refSorted_c.Ok Try.prog 27 := fun v r h => refSortedR_ok (v.1.length + 1) v r h
theorem refNumbers_ok : refNumbers_c.Ok Try.prog 28 :=
 printed (is := [4]) (cells := []) tblOk mixed Try.func28 (by kernel_rfl) Try.ntmps28 (by kernel_rfl) (by kernel_rfl) (all_cons ⟨refSorted_ok, by kernel_rfl⟩ (all_nil)) refNumbers_eq
theorem refNorm_ok : refNorm_c.Ok Try.prog 12 :=
 printed (is := [2]) (cells := []) tblOk mixed Try.func12 (by kernel_rfl) Try.ntmps12 (by kernel_rfl) (by kernel_rfl) (all_cons ⟨refSorted_ok, by kernel_rfl⟩ (all_cons ⟨refNumbers_ok, by kernel_rfl⟩ (all_nil))) refNorm_eq
theorem refDocs_ok : refDocs_c.Ok Try.prog 15 :=
 printed (is := [2]) (cells := []) tblOk mixed Try.func15 (by kernel_rfl) Try.ntmps15 (by kernel_rfl) (by kernel_rfl) (all_cons ⟨refNorm_ok, by kernel_rfl⟩ (all_nil)) refDocs_eq
theorem refIn_ok : refIn_c.Ok Try.prog 33 :=
 printed (is := [4]) (cells := []) tblOk mixed Try.func33 (by kernel_rfl) Try.ntmps33 (by kernel_rfl) (by kernel_rfl) (all_nil) refIn_eq
theorem refBoth_ok : refBoth_c.Ok Try.prog 30 :=
 printed (is := [4]) (cells := []) tblOk mixed Try.func30 (by kernel_rfl) Try.ntmps30 (by kernel_rfl) (by kernel_rfl) (all_nil) refBoth_eq
theorem refOr_ok : refOr_c.Ok Try.prog 17 :=
 printed (is := [4]) (cells := []) tblOk mixed Try.func17 (by kernel_rfl) Try.ntmps17 (by kernel_rfl) (by kernel_rfl) (all_cons ⟨refNorm_ok, by kernel_rfl⟩ (all_cons ⟨refBoth_ok, by kernel_rfl⟩ (all_nil))) refOr_eq
theorem refAnd_ok : refAnd_c.Ok Try.prog 19 :=
 printed (is := [4]) (cells := []) tblOk mixed Try.func19 (by kernel_rfl) Try.ntmps19 (by kernel_rfl) (by kernel_rfl) (all_cons ⟨refNorm_ok, by kernel_rfl⟩ (all_cons ⟨refIn_ok, by kernel_rfl⟩ (all_cons ⟨refOr_ok, by kernel_rfl⟩ (all_nil)))) refAnd_eq
theorem refMinus_ok : refMinus_c.Ok Try.prog 21 :=
 printed (is := [4]) (cells := []) tblOk mixed Try.func21 (by kernel_rfl) Try.ntmps21 (by kernel_rfl) (by kernel_rfl) (all_cons ⟨refNorm_ok, by kernel_rfl⟩ (all_cons ⟨refIn_ok, by kernel_rfl⟩ (all_nil))) refMinus_eq
theorem refHas_ok : refHas_c.Ok Try.prog 39 :=
 printed (is := [6]) (cells := []) tblOk mixed Try.func39 (by kernel_rfl) Try.ntmps39 (by kernel_rfl) (by kernel_rfl) (all_nil) refHas_eq
theorem refPhrase_ok : refPhrase_c.Ok Try.prog 23 :=
 printed (is := [2]) (cells := []) tblOk mixed Try.func23 (by kernel_rfl) Try.ntmps23 (by kernel_rfl) (by kernel_rfl) (all_cons ⟨refNorm_ok, by kernel_rfl⟩ (all_cons ⟨refHas_ok, by kernel_rfl⟩ (all_nil))) refPhrase_eq
theorem same_ok : same_c.Ok Try.prog 10 :=
 printed (is := [4]) (cells := []) tblOk mixed Try.func10 (by kernel_rfl) Try.ntmps10 (by kernel_rfl) (by kernel_rfl) (all_nil) same_eq
theorem sameN_ok : sameN_c.Ok Try.prog 13 :=
 printed (is := [4]) (cells := []) tblOk mixed Try.func13 (by kernel_rfl) Try.ntmps13 (by kernel_rfl) (by kernel_rfl) (all_nil) sameN_eq
theorem grow_ok : grow_c.Ok Try.prog 43 :=
 printed (is := [4]) (cells := []) tblOk mixed Try.func43 (by kernel_rfl) Try.ntmps43 (by kernel_rfl) (by kernel_rfl) (all_nil) grow_eq
theorem concat_ok : concat_c.Ok Try.prog 29 :=
 printed (is := [2]) (cells := []) tblOk mixed Try.func29 (by kernel_rfl) Try.ntmps29 (by kernel_rfl) (by kernel_rfl) (all_cons ⟨grow_ok, by kernel_rfl⟩ (all_nil)) concat_eq
theorem byDoc_ok : byDoc_c.Ok Try.prog 26 :=
 printed (is := [2]) (cells := []) tblOk mixed Try.func26 (by kernel_rfl) Try.ntmps26 (by kernel_rfl) (by kernel_rfl) (all_nil) byDoc_eq
theorem list_ok : list_c.Ok Try.prog 25 :=
 printed (is := [2]) (cells := []) tblOk mixed Try.func25 (by kernel_rfl) Try.ntmps25 (by kernel_rfl) (by kernel_rfl) (all_cons ⟨sortP_ok, by kernel_rfl⟩ (all_cons ⟨sortI_ok, by kernel_rfl⟩ (all_cons ⟨compactI_ok, by kernel_rfl⟩ (all_nil)))) list_eq
theorem norm_ok : norm_c.Ok Try.prog 11 :=
 printed (is := [2]) (cells := []) tblOk mixed Try.func11 (by kernel_rfl) Try.ntmps11 (by kernel_rfl) (by kernel_rfl) (all_cons ⟨byDoc_ok, by kernel_rfl⟩ (all_cons ⟨list_ok, by kernel_rfl⟩ (all_nil))) norm_eq
theorem docs_ok : docs_c.Ok Try.prog 14 :=
 printed (is := [2]) (cells := []) tblOk mixed Try.func14 (by kernel_rfl) Try.ntmps14 (by kernel_rfl) (by kernel_rfl) (all_cons ⟨norm_ok, by kernel_rfl⟩ (all_nil)) docs_eq
theorem or_ok : or_c.Ok Try.prog 16 :=
 printed (is := [4]) (cells := []) tblOk mixed Try.func16 (by kernel_rfl) Try.ntmps16 (by kernel_rfl) (by kernel_rfl) (all_cons ⟨concat_ok, by kernel_rfl⟩ (all_cons ⟨norm_ok, by kernel_rfl⟩ (all_nil))) or_eq
theorem byDoc1_ok : byDoc1_c.Ok Try.prog 26 :=
 printed (is := [2]) (cells := []) tblOk mixed Try.func26 (by kernel_rfl) Try.ntmps26 (by kernel_rfl) (by kernel_rfl) (all_nil) byDoc1_eq
theorem andF_ok : andF_c.Ok Try.prog 32 :=
 printed (is := [4]) (cells := []) tblOk mixed Try.func32 (by kernel_rfl) Try.ntmps32 (by kernel_rfl) (by kernel_rfl) (all_nil) andF_eq
theorem keptA_ok : keptA_c.Ok Try.prog 31 :=
 printed (is := [4]) (cells := []) tblOk mixed Try.func31 (by kernel_rfl) Try.ntmps31 (by kernel_rfl) (by kernel_rfl) (all_cons ⟨andF_ok, by kernel_rfl⟩ (all_nil)) keptA_eq
theorem and_ok : and_c.Ok Try.prog 18 :=
 printed (is := [4]) (cells := []) tblOk mixed Try.func18 (by kernel_rfl) Try.ntmps18 (by kernel_rfl) (by kernel_rfl) (all_cons ⟨or_ok, by kernel_rfl⟩ (all_cons ⟨byDoc1_ok, by kernel_rfl⟩ (all_cons ⟨keptA_ok, by kernel_rfl⟩ (all_nil)))) and_eq
theorem minusF_ok : minusF_c.Ok Try.prog 34 :=
 printed (is := [3]) (cells := []) tblOk mixed Try.func34 (by kernel_rfl) Try.ntmps34 (by kernel_rfl) (by kernel_rfl) (all_nil) minusF_eq
theorem keptM_ok : keptM_c.Ok Try.prog 31 :=
 printed (is := [4]) (cells := []) tblOk mixed Try.func31 (by kernel_rfl) Try.ntmps31 (by kernel_rfl) (by kernel_rfl) (all_cons ⟨minusF_ok, by kernel_rfl⟩ (all_nil)) keptM_eq
theorem minus_ok : minus_c.Ok Try.prog 20 :=
 printed (is := [4]) (cells := []) tblOk mixed Try.func20 (by kernel_rfl) Try.ntmps20 (by kernel_rfl) (by kernel_rfl) (all_cons ⟨norm_ok, by kernel_rfl⟩ (all_cons ⟨byDoc1_ok, by kernel_rfl⟩ (all_cons ⟨keptM_ok, by kernel_rfl⟩ (all_nil)))) minus_eq
theorem isNaNs_ok : isNaNs_c.Ok Try.prog 48 :=
 printed (is := [2]) (cells := []) tblOk mixed Try.func48 (by kernel_rfl) Try.ntmps48 (by kernel_rfl) (by kernel_rfl) (all_nil) isNaNs_eq
theorem binSearch_ok : binSearch_c.Ok Try.prog 38 :=
 printed (is := [4, 5]) (cells := []) tblOk mixed Try.func38 (by kernel_rfl) Try.ntmps38 (by kernel_rfl) (by kernel_rfl) (all_cons ⟨i_less_ok, by kernel_rfl⟩ (all_cons ⟨isNaNs_ok, by kernel_rfl⟩ (all_nil))) binSearch_eq
theorem phraseF_ok : phraseF_c.Ok Try.prog 37 :=
 printed (is := [4]) (cells := []) tblOk mixed Try.func37 (by kernel_rfl) Try.ntmps37 (by kernel_rfl) (by kernel_rfl) (all_cons ⟨binSearch_ok, by kernel_rfl⟩ (all_nil)) phraseF_eq
theorem indexFunc_ok : indexFunc_c.Ok Try.prog 46 :=
 printed (is := [4]) (cells := []) tblOk mixed Try.func46 (by kernel_rfl) Try.ntmps46 (by kernel_rfl) (by kernel_rfl) (all_cons ⟨phraseF_ok, by kernel_rfl⟩ (all_nil)) indexFunc_eq
theorem deleteFunc_ok : deleteFunc_c.Ok Try.prog 36 :=
 printed (is := [4]) (cells := []) tblOk mixed Try.func36 (by kernel_rfl) Try.ntmps36 (by kernel_rfl) (by kernel_rfl) (all_cons ⟨phraseF_ok, by kernel_rfl⟩ (all_cons ⟨indexFunc_ok, by kernel_rfl⟩ (all_nil))) deleteFunc_eq
theorem phrase_ok : phrase_c.Ok Try.prog 22 :=
 printed (is := [2]) (cells := []) tblOk mixed Try.func22 (by kernel_rfl) Try.ntmps22 (by kernel_rfl) (by kernel_rfl) (all_cons ⟨sortI_ok, by kernel_rfl⟩ (all_cons ⟨norm_ok, by kernel_rfl⟩ (all_cons ⟨byDoc1_ok, by kernel_rfl⟩ (all_cons ⟨deleteFunc_ok, by kernel_rfl⟩ (all_nil))))) phrase_eq
theorem fixed_ok : fixed_c.Ok Try.prog 9 :=
 printed (is := [0]) (cells := []) tblOk mixed Try.func9 (by kernel_rfl) Try.ntmps9 (by kernel_rfl) (by kernel_rfl) (all_cons ⟨same_ok, by kernel_rfl⟩ (all_cons ⟨norm_ok, by kernel_rfl⟩ (all_cons ⟨docs_ok, by kernel_rfl⟩ (all_cons ⟨or_ok, by kernel_rfl⟩ (all_cons ⟨and_ok, by kernel_rfl⟩ (all_cons ⟨minus_ok, by kernel_rfl⟩ (all_cons ⟨phrase_ok, by kernel_rfl⟩ (all_nil)))))))) fixed_eq
theorem lOps_ok : lOps_c.Ok Try.prog 3 :=
 printed (is := [4]) (cells := []) tblOk mixed Try.func3 (by kernel_rfl) Try.ntmps3 (by kernel_rfl) (by kernel_rfl) (all_cons ⟨refNorm_ok, by kernel_rfl⟩ (all_cons ⟨refDocs_ok, by kernel_rfl⟩ (all_cons ⟨refOr_ok, by kernel_rfl⟩ (all_cons ⟨refAnd_ok, by kernel_rfl⟩ (all_cons ⟨refMinus_ok, by kernel_rfl⟩ (all_cons ⟨same_ok, by kernel_rfl⟩ (all_cons ⟨sameN_ok, by kernel_rfl⟩ (all_cons ⟨norm_ok, by kernel_rfl⟩ (all_cons ⟨docs_ok, by kernel_rfl⟩ (all_cons ⟨or_ok, by kernel_rfl⟩ (all_cons ⟨and_ok, by kernel_rfl⟩ (all_cons ⟨minus_ok, by kernel_rfl⟩ (all_cons ⟨fixed_ok, by kernel_rfl⟩ (all_nil)))))))))))))) lOps_eq
theorem lPhrases_ok : lPhrases_c.Ok Try.prog 4 :=
 printed (is := [2]) (cells := []) tblOk mixed Try.func4 (by kernel_rfl) Try.ntmps4 (by kernel_rfl) (by kernel_rfl) (all_cons ⟨refPhrase_ok, by kernel_rfl⟩ (all_cons ⟨same_ok, by kernel_rfl⟩ (all_cons ⟨phrase_ok, by kernel_rfl⟩ (all_cons ⟨fixed_ok, by kernel_rfl⟩ (all_nil))))) lPhrases_eq
theorem lAlgebra_ok : lAlgebra_c.Ok Try.prog 5 :=
 printed (is := [4]) (cells := []) tblOk mixed Try.func5 (by kernel_rfl) Try.ntmps5 (by kernel_rfl) (by kernel_rfl) (all_cons ⟨same_ok, by kernel_rfl⟩ (all_cons ⟨sameN_ok, by kernel_rfl⟩ (all_cons ⟨norm_ok, by kernel_rfl⟩ (all_cons ⟨docs_ok, by kernel_rfl⟩ (all_cons ⟨or_ok, by kernel_rfl⟩ (all_cons ⟨and_ok, by kernel_rfl⟩ (all_cons ⟨minus_ok, by kernel_rfl⟩ (all_cons ⟨phrase_ok, by kernel_rfl⟩ (all_cons ⟨fixed_ok, by kernel_rfl⟩ (all_nil)))))))))) lAlgebra_eq
theorem lThree_ok : lThree_c.Ok Try.prog 7 :=
 printed (is := [6]) (cells := []) tblOk mixed Try.func7 (by kernel_rfl) Try.ntmps7 (by kernel_rfl) (by kernel_rfl) (all_cons ⟨same_ok, by kernel_rfl⟩ (all_cons ⟨or_ok, by kernel_rfl⟩ (all_cons ⟨and_ok, by kernel_rfl⟩ (all_cons ⟨minus_ok, by kernel_rfl⟩ (all_cons ⟨phrase_ok, by kernel_rfl⟩ (all_cons ⟨fixed_ok, by kernel_rfl⟩ (all_nil))))))) lThree_eq
end
end Go.Vu.Mg
