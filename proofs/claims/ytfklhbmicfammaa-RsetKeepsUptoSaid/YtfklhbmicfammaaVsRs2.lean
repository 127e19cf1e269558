/- Each function of the program keeps what its values' function promises. -/
import Derived.Test.YtfklhbmicfammaaVsRs1k
import Derived.Test.YtfklhbmicfammaaVsTab
import Derived.Test.YtfklhbmicfammaaProg
set_option linter.unusedVariables false
set_option maxRecDepth 100000
namespace Go.Vs.Rs
noncomputable section
open Go Go.Vs Go.Proofs

theorem tblOk : TabOk Try.prog tbl := tabB_ok (by kernel_rfl)
theorem mixed : Try.prog.follows .mixedOrders = true := by kernel_rfl

theorem isNaN_ok : isNaN_c.Ok Try.prog 42 :=
  printed (is := [2]) tblOk mixed Try.func42 (by kernel_rfl) Try.ntmps42 (by kernel_rfl) (by kernel_rfl) (all_nil) isNaN_eq

theorem cmpLess_ok : cmpLess_c.Ok Try.prog 70 :=
  printed (is := [4]) tblOk mixed Try.func70 (by kernel_rfl) Try.ntmps70 (by kernel_rfl) (by kernel_rfl) (all_cons ⟨isNaN_ok, by kernel_rfl⟩ (all_nil)) cmpLess_eq

theorem cmpLess_is (x y : Int) : cmpLess x y = i_less x y := by simp [cmpLess, isNaN, i_less]
theorem i_less_ok : i_less_c.Ok Try.prog 70 := fun v r h => cmpLess_ok v r ((cmpLess_is v.1 v.2.1).trans h)

theorem cmpCompare_ok : cmpCompare_c.Ok Try.prog 31 :=
  printed (is := [4]) tblOk mixed Try.func31 (by kernel_rfl) Try.ntmps31 (by kernel_rfl) (by kernel_rfl) (all_cons ⟨isNaN_ok, by kernel_rfl⟩ (all_nil)) cmpCompare_eq

theorem normLess_ok : normLess_c.Ok Try.prog 30 :=
  printed (is := [4]) tblOk mixed Try.func30 (by kernel_rfl) Try.ntmps30 (by kernel_rfl) (by kernel_rfl) (all_cons ⟨cmpCompare_ok, by kernel_rfl⟩ (all_nil)) normLess_eq

theorem normLess_is (p q : Int × Int) : normLess p q = c_cmp p q := by
  simp only [normLess, cmpCompare, isNaN, c_cmp, cmpv, Option.bind_some, bne_self_eq_false, cond_false]
  by_cases h1 : p.1 < q.1
  · simp [h1]
  · by_cases h2 : p.1 > q.1 <;> simp [h1, h2]
theorem c_cmp_ok : c_cmp_c.Ok Try.prog 30 := fun v r h => normLess_ok v r ((normLess_is v.1 v.2.1).trans h)

theorem compactI_ok : compactI_c.Ok Try.prog 45 :=
  printed (is := [2]) tblOk mixed Try.func45 (by kernel_rfl) Try.ntmps45 (by kernel_rfl) (by kernel_rfl) (all_nil) compactI_eq

theorem i_len64_ok : i_len64_c.Ok Try.prog 56 :=
  printed (is := [2]) tblOk mixed Try.func56 (by kernel_rfl) Try.ntmps56 (by kernel_rfl) (by kernel_rfl) (all_nil) i_len64_eq

theorem i_bitsLen_ok : i_bitsLen_c.Ok Try.prog 41 :=
  printed (is := [2]) tblOk mixed Try.func41 (by kernel_rfl) Try.ntmps41 (by kernel_rfl) (by kernel_rfl) (all_cons ⟨i_len64_ok, by kernel_rfl⟩ (all_nil)) i_bitsLen_eq

theorem i_nextPow_ok : i_nextPow_c.Ok Try.prog 60 :=
  printed (is := [2]) tblOk mixed Try.func60 (by kernel_rfl) Try.ntmps60 (by kernel_rfl) (by kernel_rfl) (all_cons ⟨i_bitsLen_ok, by kernel_rfl⟩ (all_nil)) i_nextPow_eq

theorem i_xorNext_ok : i_xorNext_c.Ok Try.prog 61 :=
  printed (is := [2]) tblOk mixed Try.func61 (by kernel_rfl) Try.ntmps61 (by kernel_rfl) (by kernel_rfl) (all_nil) i_xorNext_eq

theorem i_insSort_ok : i_insSort_c.Ok Try.prog 64 :=
  printed (is := []) tblOk mixed Try.func64 (by kernel_rfl) Try.ntmps64 (by kernel_rfl) (by kernel_rfl) (all_cons ⟨i_less_ok, by kernel_rfl⟩ (all_nil)) i_insSort_eq

theorem i_siftDown_ok : i_siftDown_c.Ok Try.prog 74 :=
  printed (is := []) tblOk mixed Try.func74 (by kernel_rfl) Try.ntmps74 (by kernel_rfl) (by kernel_rfl) (all_cons ⟨i_less_ok, by kernel_rfl⟩ (all_nil)) i_siftDown_eq

theorem i_heapSort_ok : i_heapSort_c.Ok Try.prog 65 :=
  printed (is := []) tblOk mixed Try.func65 (by kernel_rfl) Try.ntmps65 (by kernel_rfl) (by kernel_rfl) (all_cons ⟨i_siftDown_ok, by kernel_rfl⟩ (all_nil)) i_heapSort_eq

theorem i_breakPat_ok : i_breakPat_c.Ok Try.prog 66 :=
  printed (is := []) tblOk mixed Try.func66 (by kernel_rfl) Try.ntmps66 (by kernel_rfl) (by kernel_rfl) (all_cons ⟨i_nextPow_ok, by kernel_rfl⟩ (all_cons ⟨i_xorNext_ok, by kernel_rfl⟩ (all_nil))) i_breakPat_eq

theorem i_order2_ok : i_order2_c.Ok Try.prog 77 :=
  printed (is := [8, 9]) tblOk mixed Try.func77 (by kernel_rfl) Try.ntmps77 (by kernel_rfl) (by kernel_rfl) (all_cons ⟨i_less_ok, by kernel_rfl⟩ (all_nil)) i_order2_eq

theorem i_median_ok : i_median_c.Ok Try.prog 76 :=
  printed (is := [10]) tblOk mixed Try.func76 (by kernel_rfl) Try.ntmps76 (by kernel_rfl) (by kernel_rfl) (all_cons ⟨i_order2_ok, by kernel_rfl⟩ (all_nil)) i_median_eq

theorem i_medianAdj_ok : i_medianAdj_c.Ok Try.prog 75 :=
  printed (is := [6]) tblOk mixed Try.func75 (by kernel_rfl) Try.ntmps75 (by kernel_rfl) (by kernel_rfl) (all_cons ⟨i_median_ok, by kernel_rfl⟩ (all_nil)) i_medianAdj_eq

theorem i_choosePiv_ok : i_choosePiv_c.Ok Try.prog 67 :=
  printed (is := [6, 7]) tblOk mixed Try.func67 (by kernel_rfl) Try.ntmps67 (by kernel_rfl) (by kernel_rfl) (all_cons ⟨i_median_ok, by kernel_rfl⟩ (all_cons ⟨i_medianAdj_ok, by kernel_rfl⟩ (all_nil))) i_choosePiv_eq

theorem i_revRange_ok : i_revRange_c.Ok Try.prog 68 :=
  printed (is := []) tblOk mixed Try.func68 (by kernel_rfl) Try.ntmps68 (by kernel_rfl) (by kernel_rfl) (all_nil) i_revRange_eq

theorem i_partIns_ok : i_partIns_c.Ok Try.prog 69 :=
  printed (is := [6]) tblOk mixed Try.func69 (by kernel_rfl) Try.ntmps69 (by kernel_rfl) (by kernel_rfl) (all_cons ⟨i_less_ok, by kernel_rfl⟩ (all_nil)) i_partIns_eq

theorem i_partEq_ok : i_partEq_c.Ok Try.prog 71 :=
  printed (is := [8]) tblOk mixed Try.func71 (by kernel_rfl) Try.ntmps71 (by kernel_rfl) (by kernel_rfl) (all_cons ⟨i_less_ok, by kernel_rfl⟩ (all_nil)) i_partEq_eq

theorem i_partition_ok : i_partition_c.Ok Try.prog 72 :=
  printed (is := [8, 9]) tblOk mixed Try.func72 (by kernel_rfl) Try.ntmps72 (by kernel_rfl) (by kernel_rfl) (all_cons ⟨i_less_ok, by kernel_rfl⟩ (all_nil)) i_partition_eq

theorem i_pdq0_ok (i_pdqR : List Int → Int → Int → Int → Option (List Int × Unit)) (hi_pdqR : (i_pdqR_cR i_pdqR).Ok Try.prog 58) : (i_pdq0_c i_pdqR).Ok Try.prog 58 :=
  printed (is := []) tblOk mixed Try.func58 (by kernel_rfl) Try.ntmps58 (by kernel_rfl) (by kernel_rfl) (all_cons ⟨i_less_ok, by kernel_rfl⟩ (all_cons ⟨i_insSort_ok, by kernel_rfl⟩ (all_cons ⟨i_heapSort_ok, by kernel_rfl⟩ (all_cons ⟨i_breakPat_ok, by kernel_rfl⟩ (all_cons ⟨i_choosePiv_ok, by kernel_rfl⟩ (all_cons ⟨i_revRange_ok, by kernel_rfl⟩ (all_cons ⟨i_partIns_ok, by kernel_rfl⟩ (all_cons ⟨i_partEq_ok, by kernel_rfl⟩ (all_cons ⟨i_partition_ok, by kernel_rfl⟩ (all_cons ⟨hi_pdqR, by kernel_rfl⟩ (all_nil))))))))))) (i_pdq0_eq i_pdqR)

theorem i_pdqR_ok : ∀ N, (i_pdqR_cR (Srt.pdqN i_less N)).Ok Try.prog 58
  | 0 => fun v r h => by cases h
  | N + 1 => i_pdq0_ok (Srt.pdqN i_less N) (i_pdqR_ok N)

theorem i_sortG_ok (i_pdqR : List Int → Int → Int → Int → Option (List Int × Unit)) (hi_pdqR : (i_pdqR_cR i_pdqR).Ok Try.prog 58) : (i_sortG_c i_pdqR).Ok Try.prog 44 :=
  printed (is := []) tblOk mixed Try.func44 (by kernel_rfl) Try.ntmps44 (by kernel_rfl) (by kernel_rfl) (all_cons ⟨i_bitsLen_ok, by kernel_rfl⟩ (all_cons ⟨hi_pdqR, by kernel_rfl⟩ (all_nil))) (i_sortG_eq i_pdqR)

theorem sortI_ok : sortI_c.Ok Try.prog 44 := ok_of fun v r h => ⟨_, i_sortG_ok (Srt.pdqN i_less (List.length v.1 + 1)) (i_pdqR_ok _), h⟩

theorem c_insSort_ok : c_insSort_c.Ok Try.prog 47 :=
  printed (is := []) tblOk mixed Try.func47 (by kernel_rfl) Try.ntmps47 (by kernel_rfl) (by kernel_rfl) (all_cons ⟨c_cmp_ok, by kernel_rfl⟩ (all_nil)) c_insSort_eq

theorem c_siftDown_ok : c_siftDown_c.Ok Try.prog 59 :=
  printed (is := []) tblOk mixed Try.func59 (by kernel_rfl) Try.ntmps59 (by kernel_rfl) (by kernel_rfl) (all_cons ⟨c_cmp_ok, by kernel_rfl⟩ (all_nil)) c_siftDown_eq

theorem c_heapSort_ok : c_heapSort_c.Ok Try.prog 48 :=
  printed (is := []) tblOk mixed Try.func48 (by kernel_rfl) Try.ntmps48 (by kernel_rfl) (by kernel_rfl) (all_cons ⟨c_siftDown_ok, by kernel_rfl⟩ (all_nil)) c_heapSort_eq

theorem c_breakPat_ok : c_breakPat_c.Ok Try.prog 49 :=
  printed (is := []) tblOk mixed Try.func49 (by kernel_rfl) Try.ntmps49 (by kernel_rfl) (by kernel_rfl) (all_cons ⟨i_nextPow_ok, by kernel_rfl⟩ (all_cons ⟨i_xorNext_ok, by kernel_rfl⟩ (all_nil))) c_breakPat_eq

theorem c_order2_ok : c_order2_c.Ok Try.prog 73 :=
  printed (is := [10, 11]) tblOk mixed Try.func73 (by kernel_rfl) Try.ntmps73 (by kernel_rfl) (by kernel_rfl) (all_cons ⟨c_cmp_ok, by kernel_rfl⟩ (all_nil)) c_order2_eq

theorem c_median_ok : c_median_c.Ok Try.prog 63 :=
  printed (is := [12]) tblOk mixed Try.func63 (by kernel_rfl) Try.ntmps63 (by kernel_rfl) (by kernel_rfl) (all_cons ⟨c_order2_ok, by kernel_rfl⟩ (all_nil)) c_median_eq

theorem c_medianAdj_ok : c_medianAdj_c.Ok Try.prog 62 :=
  printed (is := [8]) tblOk mixed Try.func62 (by kernel_rfl) Try.ntmps62 (by kernel_rfl) (by kernel_rfl) (all_cons ⟨c_median_ok, by kernel_rfl⟩ (all_nil)) c_medianAdj_eq

theorem c_choosePiv_ok : c_choosePiv_c.Ok Try.prog 50 :=
  printed (is := [8, 9]) tblOk mixed Try.func50 (by kernel_rfl) Try.ntmps50 (by kernel_rfl) (by kernel_rfl) (all_cons ⟨c_median_ok, by kernel_rfl⟩ (all_cons ⟨c_medianAdj_ok, by kernel_rfl⟩ (all_nil))) c_choosePiv_eq

theorem c_revRange_ok : c_revRange_c.Ok Try.prog 51 :=
  printed (is := []) tblOk mixed Try.func51 (by kernel_rfl) Try.ntmps51 (by kernel_rfl) (by kernel_rfl) (all_nil) c_revRange_eq

theorem c_partIns_ok : c_partIns_c.Ok Try.prog 52 :=
  printed (is := [8]) tblOk mixed Try.func52 (by kernel_rfl) Try.ntmps52 (by kernel_rfl) (by kernel_rfl) (all_cons ⟨c_cmp_ok, by kernel_rfl⟩ (all_nil)) c_partIns_eq

theorem c_partEq_ok : c_partEq_c.Ok Try.prog 53 :=
  printed (is := [10]) tblOk mixed Try.func53 (by kernel_rfl) Try.ntmps53 (by kernel_rfl) (by kernel_rfl) (all_cons ⟨c_cmp_ok, by kernel_rfl⟩ (all_nil)) c_partEq_eq

theorem c_partition_ok : c_partition_c.Ok Try.prog 54 :=
  printed (is := [10, 11]) tblOk mixed Try.func54 (by kernel_rfl) Try.ntmps54 (by kernel_rfl) (by kernel_rfl) (all_cons ⟨c_cmp_ok, by kernel_rfl⟩ (all_nil)) c_partition_eq

theorem c_pdq0_ok (c_pdqR : List (Int × Int) → Int → Int → Int → Option (List (Int × Int) × Unit)) (hc_pdqR : (c_pdqR_cR c_pdqR).Ok Try.prog 40) : (c_pdq0_c c_pdqR).Ok Try.prog 40 :=
  printed (is := []) tblOk mixed Try.func40 (by kernel_rfl) Try.ntmps40 (by kernel_rfl) (by kernel_rfl) (all_cons ⟨c_cmp_ok, by kernel_rfl⟩ (all_cons ⟨c_insSort_ok, by kernel_rfl⟩ (all_cons ⟨c_heapSort_ok, by kernel_rfl⟩ (all_cons ⟨c_breakPat_ok, by kernel_rfl⟩ (all_cons ⟨c_choosePiv_ok, by kernel_rfl⟩ (all_cons ⟨c_revRange_ok, by kernel_rfl⟩ (all_cons ⟨c_partIns_ok, by kernel_rfl⟩ (all_cons ⟨c_partEq_ok, by kernel_rfl⟩ (all_cons ⟨c_partition_ok, by kernel_rfl⟩ (all_cons ⟨hc_pdqR, by kernel_rfl⟩ (all_nil))))))))))) (c_pdq0_eq c_pdqR)

theorem c_pdqR_ok : ∀ N, (c_pdqR_cR (Srt.pdqN c_less N)).Ok Try.prog 40
  | 0 => fun v r h => by cases h
  | N + 1 => c_pdq0_ok (Srt.pdqN c_less N) (c_pdqR_ok N)

theorem c_sortG_ok (c_pdqR : List (Int × Int) → Int → Int → Int → Option (List (Int × Int) × Unit)) (hc_pdqR : (c_pdqR_cR c_pdqR).Ok Try.prog 40) : (c_sortG_c c_pdqR).Ok Try.prog 29 :=
  printed (is := []) tblOk mixed Try.func29 (by kernel_rfl) Try.ntmps29 (by kernel_rfl) (by kernel_rfl) (all_cons ⟨i_bitsLen_ok, by kernel_rfl⟩ (all_cons ⟨hc_pdqR, by kernel_rfl⟩ (all_nil))) (c_sortG_eq c_pdqR)

theorem sortF_ok : sortF_c.Ok Try.prog 29 := ok_of fun v r h => ⟨_, c_sortG_ok (Srt.pdqN c_less (List.length v.1 + 1)) (c_pdqR_ok _), h⟩

theorem refSame_ok : refSame_c.Ok Try.prog 12 :=
  printed (is := [4]) tblOk mixed Try.func12 (by kernel_rfl) Try.ntmps12 (by kernel_rfl) (by kernel_rfl) (all_nil) refSame_eq

theorem refClipped_ok : refClipped_c.Ok Try.prog 28 :=
  printed (is := [2]) tblOk mixed Try.func28 (by kernel_rfl) Try.ntmps28 (by kernel_rfl) (by kernel_rfl) (all_nil) refClipped_eq

theorem refSorted0_ok (refSorted : List (Int × Int) → Option (Unit × (List (Int × Int) × Unit))) (hrefSorted : (refSorted_cR refSorted).Ok Try.prog 27) : (refSorted0_c refSorted).Ok Try.prog 27 :=
  printed (is := [2]) tblOk mixed Try.func27 (by kernel_rfl) Try.ntmps27 (by kernel_rfl) (by kernel_rfl) (all_cons ⟨hrefSorted, by kernel_rfl⟩ (all_nil)) (refSorted0_eq refSorted)

theorem refSortedR_ok : ∀ N, (refSorted_cR (refSortedN N)).Ok Try.prog 27
  | 0 => fun v r h => by cases h
  | N + 1 => refSorted0_ok (refSortedN N) (refSortedR_ok N)
theorem refSorted_ok : refSorted_c.Ok Try.prog 27 := fun v r h => refSortedR_ok (v.1.length + 1) v r h


theorem refNorm_ok : refNorm_c.Ok Try.prog 11 :=
  printed (is := [2]) tblOk mixed Try.func11 (by kernel_rfl) Try.ntmps11 (by kernel_rfl) (by kernel_rfl) (all_cons ⟨refSorted_ok, by kernel_rfl⟩ (all_cons ⟨refClipped_ok, by kernel_rfl⟩ (all_nil))) refNorm_eq

theorem rNorm_ok : rNorm_c.Ok Try.prog 13 :=
  printed (is := [2]) tblOk mixed Try.func13 (by kernel_rfl) Try.ntmps13 (by kernel_rfl) (by kernel_rfl) (all_cons ⟨sortF_ok, by kernel_rfl⟩ (all_nil)) rNorm_eq

theorem slEqual_ok : slEqual_c.Ok Try.prog 32 :=
  printed (is := [4]) tblOk mixed Try.func32 (by kernel_rfl) Try.ntmps32 (by kernel_rfl) (by kernel_rfl) (all_nil) slEqual_eq

theorem rMay_ok : rMay_c.Ok Try.prog 14 :=
  printed (is := [2]) tblOk mixed Try.func14 (by kernel_rfl) Try.ntmps14 (by kernel_rfl) (by kernel_rfl) (all_cons ⟨rNorm_ok, by kernel_rfl⟩ (all_cons ⟨slEqual_ok, by kernel_rfl⟩ (all_nil))) rMay_eq

theorem rCount_ok : rCount_c.Ok Try.prog 15 :=
  printed (is := [2]) tblOk mixed Try.func15 (by kernel_rfl) Try.ntmps15 (by kernel_rfl) (by kernel_rfl) (all_cons ⟨rNorm_ok, by kernel_rfl⟩ (all_nil)) rCount_eq

theorem rEqual_ok : rEqual_c.Ok Try.prog 16 :=
  printed (is := [4]) tblOk mixed Try.func16 (by kernel_rfl) Try.ntmps16 (by kernel_rfl) (by kernel_rfl) (all_cons ⟨rNorm_ok, by kernel_rfl⟩ (all_cons ⟨slEqual_ok, by kernel_rfl⟩ (all_nil))) rEqual_eq

theorem uF_ok : uF_c.Ok Try.prog 33 :=
  printed (is := [4]) tblOk mixed Try.func33 (by kernel_rfl) Try.ntmps33 (by kernel_rfl) (by kernel_rfl) (all_nil) uF_eq

theorem mF_ok : mF_c.Ok Try.prog 35 :=
  printed (is := [4]) tblOk mixed Try.func35 (by kernel_rfl) Try.ntmps35 (by kernel_rfl) (by kernel_rfl) (all_nil) mF_eq

theorem dF_ok : dF_c.Ok Try.prog 36 :=
  printed (is := [4]) tblOk mixed Try.func36 (by kernel_rfl) Try.ntmps36 (by kernel_rfl) (by kernel_rfl) (all_nil) dF_eq

theorem nF_ok : nF_c.Ok Try.prog 37 :=
  printed (is := [4]) tblOk mixed Try.func37 (by kernel_rfl) Try.ntmps37 (by kernel_rfl) (by kernel_rfl) (all_nil) nF_eq

theorem grow_ok : grow_c.Ok Try.prog 57 :=
  printed (is := [4]) tblOk mixed Try.func57 (by kernel_rfl) Try.ntmps57 (by kernel_rfl) (by kernel_rfl) (all_nil) grow_eq

theorem concat_ok : concat_c.Ok Try.prog 43 :=
  printed (is := [2]) tblOk mixed Try.func43 (by kernel_rfl) Try.ntmps43 (by kernel_rfl) (by kernel_rfl) (all_cons ⟨grow_ok, by kernel_rfl⟩ (all_nil)) concat_eq

theorem runU_ok : runU_c.Ok Try.prog 34 :=
  printed (is := [6]) tblOk mixed Try.func34 (by kernel_rfl) Try.ntmps34 (by kernel_rfl) (by kernel_rfl) (all_cons ⟨sortI_ok, by kernel_rfl⟩ (all_cons ⟨compactI_ok, by kernel_rfl⟩ (all_cons ⟨rNorm_ok, by kernel_rfl⟩ (all_cons ⟨uF_ok, by kernel_rfl⟩ (all_cons ⟨concat_ok, by kernel_rfl⟩ (all_nil)))))) runU_eq

theorem runM_ok : runM_c.Ok Try.prog 34 :=
  printed (is := [6]) tblOk mixed Try.func34 (by kernel_rfl) Try.ntmps34 (by kernel_rfl) (by kernel_rfl) (all_cons ⟨sortI_ok, by kernel_rfl⟩ (all_cons ⟨compactI_ok, by kernel_rfl⟩ (all_cons ⟨rNorm_ok, by kernel_rfl⟩ (all_cons ⟨mF_ok, by kernel_rfl⟩ (all_cons ⟨concat_ok, by kernel_rfl⟩ (all_nil)))))) runM_eq

theorem runD_ok : runD_c.Ok Try.prog 34 :=
  printed (is := [6]) tblOk mixed Try.func34 (by kernel_rfl) Try.ntmps34 (by kernel_rfl) (by kernel_rfl) (all_cons ⟨sortI_ok, by kernel_rfl⟩ (all_cons ⟨compactI_ok, by kernel_rfl⟩ (all_cons ⟨rNorm_ok, by kernel_rfl⟩ (all_cons ⟨dF_ok, by kernel_rfl⟩ (all_cons ⟨concat_ok, by kernel_rfl⟩ (all_nil)))))) runD_eq

theorem runN_ok : runN_c.Ok Try.prog 34 :=
  printed (is := [6]) tblOk mixed Try.func34 (by kernel_rfl) Try.ntmps34 (by kernel_rfl) (by kernel_rfl) (all_cons ⟨sortI_ok, by kernel_rfl⟩ (all_cons ⟨compactI_ok, by kernel_rfl⟩ (all_cons ⟨rNorm_ok, by kernel_rfl⟩ (all_cons ⟨nF_ok, by kernel_rfl⟩ (all_cons ⟨concat_ok, by kernel_rfl⟩ (all_nil)))))) runN_eq

theorem rUnion_ok : rUnion_c.Ok Try.prog 17 :=
  printed (is := [4]) tblOk mixed Try.func17 (by kernel_rfl) Try.ntmps17 (by kernel_rfl) (by kernel_rfl) (all_cons ⟨runU_ok, by kernel_rfl⟩ (all_cons ⟨runM_ok, by kernel_rfl⟩ (all_cons ⟨runD_ok, by kernel_rfl⟩ (all_cons ⟨runN_ok, by kernel_rfl⟩ (all_nil))))) rUnion_eq

theorem rMeet_ok : rMeet_c.Ok Try.prog 19 :=
  printed (is := [4]) tblOk mixed Try.func19 (by kernel_rfl) Try.ntmps19 (by kernel_rfl) (by kernel_rfl) (all_cons ⟨runU_ok, by kernel_rfl⟩ (all_cons ⟨runM_ok, by kernel_rfl⟩ (all_cons ⟨runD_ok, by kernel_rfl⟩ (all_cons ⟨runN_ok, by kernel_rfl⟩ (all_nil))))) rMeet_eq

theorem rMinus_ok : rMinus_c.Ok Try.prog 21 :=
  printed (is := [4]) tblOk mixed Try.func21 (by kernel_rfl) Try.ntmps21 (by kernel_rfl) (by kernel_rfl) (all_cons ⟨runU_ok, by kernel_rfl⟩ (all_cons ⟨runM_ok, by kernel_rfl⟩ (all_cons ⟨runD_ok, by kernel_rfl⟩ (all_cons ⟨runN_ok, by kernel_rfl⟩ (all_nil))))) rMinus_eq

theorem rNot_ok : rNot_c.Ok Try.prog 23 :=
  printed (is := [2]) tblOk mixed Try.func23 (by kernel_rfl) Try.ntmps23 (by kernel_rfl) (by kernel_rfl) (all_cons ⟨runU_ok, by kernel_rfl⟩ (all_cons ⟨runM_ok, by kernel_rfl⟩ (all_cons ⟨runD_ok, by kernel_rfl⟩ (all_cons ⟨runN_ok, by kernel_rfl⟩ (all_nil))))) rNot_eq

theorem refUnion_ok : refUnion_c.Ok Try.prog 18 :=
  printed (is := [4]) tblOk mixed Try.func18 (by kernel_rfl) Try.ntmps18 (by kernel_rfl) (by kernel_rfl) (all_cons ⟨refNorm_ok, by kernel_rfl⟩ (all_nil)) refUnion_eq

theorem refNot_ok : refNot_c.Ok Try.prog 24 :=
  printed (is := [2]) tblOk mixed Try.func24 (by kernel_rfl) Try.ntmps24 (by kernel_rfl) (by kernel_rfl) (all_cons ⟨refNorm_ok, by kernel_rfl⟩ (all_nil)) refNot_eq

theorem refMeet_ok : refMeet_c.Ok Try.prog 20 :=
  printed (is := [4]) tblOk mixed Try.func20 (by kernel_rfl) Try.ntmps20 (by kernel_rfl) (by kernel_rfl) (all_cons ⟨refUnion_ok, by kernel_rfl⟩ (all_cons ⟨refNot_ok, by kernel_rfl⟩ (all_nil))) refMeet_eq

theorem refMinus_ok : refMinus_c.Ok Try.prog 22 :=
  printed (is := [4]) tblOk mixed Try.func22 (by kernel_rfl) Try.ntmps22 (by kernel_rfl) (by kernel_rfl) (all_cons ⟨refNot_ok, by kernel_rfl⟩ (all_cons ⟨refMeet_ok, by kernel_rfl⟩ (all_nil))) refMinus_eq

theorem refHas_ok : refHas_c.Ok Try.prog 25 :=
  printed (is := [4]) tblOk mixed Try.func25 (by kernel_rfl) Try.ntmps25 (by kernel_rfl) (by kernel_rfl) (all_nil) refHas_eq

theorem hasF_ok : hasF_c.Ok Try.prog 39 :=
  printed (is := [3]) tblOk mixed Try.func39 (by kernel_rfl) Try.ntmps39 (by kernel_rfl) (by kernel_rfl) (all_nil) hasF_eq

theorem indexFunc_ok : indexFunc_c.Ok Try.prog 46 :=
  printed (is := [4]) tblOk mixed Try.func46 (by kernel_rfl) Try.ntmps46 (by kernel_rfl) (by kernel_rfl) (all_cons ⟨hasF_ok, by kernel_rfl⟩ (all_nil)) indexFunc_eq

theorem containsFunc_ok : containsFunc_c.Ok Try.prog 38 :=
  printed (is := [4]) tblOk mixed Try.func38 (by kernel_rfl) Try.ntmps38 (by kernel_rfl) (by kernel_rfl) (all_cons ⟨indexFunc_ok, by kernel_rfl⟩ (all_nil)) containsFunc_eq

theorem rHas_ok : rHas_c.Ok Try.prog 26 :=
  printed (is := [4]) tblOk mixed Try.func26 (by kernel_rfl) Try.ntmps26 (by kernel_rfl) (by kernel_rfl) (all_cons ⟨containsFunc_ok, by kernel_rfl⟩ (all_nil)) rHas_eq

theorem fixed_ok : fixed_c.Ok Try.prog 10 :=
  printed (is := [0]) tblOk mixed Try.func10 (by kernel_rfl) Try.ntmps10 (by kernel_rfl) (by kernel_rfl) (all_cons ⟨refSame_ok, by kernel_rfl⟩ (all_cons ⟨rNorm_ok, by kernel_rfl⟩ (all_cons ⟨rMay_ok, by kernel_rfl⟩ (all_cons ⟨rCount_ok, by kernel_rfl⟩ (all_cons ⟨rEqual_ok, by kernel_rfl⟩ (all_cons ⟨rUnion_ok, by kernel_rfl⟩ (all_cons ⟨rMeet_ok, by kernel_rfl⟩ (all_cons ⟨rMinus_ok, by kernel_rfl⟩ (all_cons ⟨rNot_ok, by kernel_rfl⟩ (all_cons ⟨rHas_ok, by kernel_rfl⟩ (all_nil))))))))))) fixed_eq

theorem lNorms_ok : lNorms_c.Ok Try.prog 3 :=
  printed (is := [4]) tblOk mixed Try.func3 (by kernel_rfl) Try.ntmps3 (by kernel_rfl) (by kernel_rfl) (all_cons ⟨refSame_ok, by kernel_rfl⟩ (all_cons ⟨refNorm_ok, by kernel_rfl⟩ (all_cons ⟨rNorm_ok, by kernel_rfl⟩ (all_cons ⟨rMay_ok, by kernel_rfl⟩ (all_cons ⟨rCount_ok, by kernel_rfl⟩ (all_cons ⟨rEqual_ok, by kernel_rfl⟩ (all_cons ⟨fixed_ok, by kernel_rfl⟩ (all_nil)))))))) lNorms_eq

theorem lOps_ok : lOps_c.Ok Try.prog 4 :=
  printed (is := [4]) tblOk mixed Try.func4 (by kernel_rfl) Try.ntmps4 (by kernel_rfl) (by kernel_rfl) (all_cons ⟨refSame_ok, by kernel_rfl⟩ (all_cons ⟨rUnion_ok, by kernel_rfl⟩ (all_cons ⟨rMeet_ok, by kernel_rfl⟩ (all_cons ⟨rMinus_ok, by kernel_rfl⟩ (all_cons ⟨rNot_ok, by kernel_rfl⟩ (all_cons ⟨refUnion_ok, by kernel_rfl⟩ (all_cons ⟨refNot_ok, by kernel_rfl⟩ (all_cons ⟨refMeet_ok, by kernel_rfl⟩ (all_cons ⟨refMinus_ok, by kernel_rfl⟩ (all_cons ⟨fixed_ok, by kernel_rfl⟩ (all_nil))))))))))) lOps_eq

theorem lMembers_ok : lMembers_c.Ok Try.prog 5 :=
  printed (is := [6]) tblOk mixed Try.func5 (by kernel_rfl) Try.ntmps5 (by kernel_rfl) (by kernel_rfl) (all_cons ⟨rNorm_ok, by kernel_rfl⟩ (all_cons ⟨rUnion_ok, by kernel_rfl⟩ (all_cons ⟨rMeet_ok, by kernel_rfl⟩ (all_cons ⟨rMinus_ok, by kernel_rfl⟩ (all_cons ⟨rNot_ok, by kernel_rfl⟩ (all_cons ⟨refHas_ok, by kernel_rfl⟩ (all_cons ⟨rHas_ok, by kernel_rfl⟩ (all_cons ⟨fixed_ok, by kernel_rfl⟩ (all_nil))))))))) lMembers_eq

theorem lAlgebra_ok : lAlgebra_c.Ok Try.prog 6 :=
  printed (is := [6]) tblOk mixed Try.func6 (by kernel_rfl) Try.ntmps6 (by kernel_rfl) (by kernel_rfl) (all_cons ⟨refSame_ok, by kernel_rfl⟩ (all_cons ⟨rNorm_ok, by kernel_rfl⟩ (all_cons ⟨rCount_ok, by kernel_rfl⟩ (all_cons ⟨rEqual_ok, by kernel_rfl⟩ (all_cons ⟨rUnion_ok, by kernel_rfl⟩ (all_cons ⟨rMeet_ok, by kernel_rfl⟩ (all_cons ⟨rMinus_ok, by kernel_rfl⟩ (all_cons ⟨rNot_ok, by kernel_rfl⟩ (all_cons ⟨fixed_ok, by kernel_rfl⟩ (all_nil)))))))))) lAlgebra_eq

theorem lPoints_ok : lPoints_c.Ok Try.prog 9 :=
  printed (is := [4]) tblOk mixed Try.func9 (by kernel_rfl) Try.ntmps9 (by kernel_rfl) (by kernel_rfl) (all_cons ⟨rNorm_ok, by kernel_rfl⟩ (all_cons ⟨rCount_ok, by kernel_rfl⟩ (all_cons ⟨rHas_ok, by kernel_rfl⟩ (all_cons ⟨fixed_ok, by kernel_rfl⟩ (all_nil))))) lPoints_eq

theorem lOrders_ok : lOrders_c.Ok Try.prog 8 :=
  printed (is := [6]) tblOk mixed Try.func8 (by kernel_rfl) Try.ntmps8 (by kernel_rfl) (by kernel_rfl) (all_cons ⟨refSame_ok, by kernel_rfl⟩ (all_cons ⟨rNorm_ok, by kernel_rfl⟩ (all_cons ⟨fixed_ok, by kernel_rfl⟩ (all_nil)))) lOrders_eq

theorem rNormO_ok : rNormO_c.Ok Try.prog 13 :=
  printed (is := [2]) tblOk mixed Try.func13 (by kernel_rfl) Try.ntmps13 (by kernel_rfl) (by kernel_rfl) (all_cons ⟨sortF_ok, by kernel_rfl⟩ (all_nil)) rNormO_eq

theorem runUO_ok : runUO_c.Ok Try.prog 34 :=
  printed (is := [6]) tblOk mixed Try.func34 (by kernel_rfl) Try.ntmps34 (by kernel_rfl) (by kernel_rfl) (all_cons ⟨sortI_ok, by kernel_rfl⟩ (all_cons ⟨compactI_ok, by kernel_rfl⟩ (all_cons ⟨uF_ok, by kernel_rfl⟩ (all_cons ⟨concat_ok, by kernel_rfl⟩ (all_cons ⟨rNormO_ok, by kernel_rfl⟩ (all_nil)))))) runUO_eq

theorem rUnionO_ok : rUnionO_c.Ok Try.prog 17 :=
  printed (is := [4]) tblOk mixed Try.func17 (by kernel_rfl) Try.ntmps17 (by kernel_rfl) (by kernel_rfl) (all_cons ⟨runUO_ok, by kernel_rfl⟩ (all_nil)) rUnionO_eq

theorem lKeeps_ok : lKeeps_c.Ok Try.prog 7 :=
  printed (is := [4]) tblOk mixed Try.func7 (by kernel_rfl) Try.ntmps7 (by kernel_rfl) (by kernel_rfl) (all_cons ⟨refSame_ok, by kernel_rfl⟩ (all_cons ⟨refNorm_ok, by kernel_rfl⟩ (all_cons ⟨rMeet_ok, by kernel_rfl⟩ (all_cons ⟨rNot_ok, by kernel_rfl⟩ (all_cons ⟨fixed_ok, by kernel_rfl⟩ (all_cons ⟨rNormO_ok, by kernel_rfl⟩ (all_cons ⟨rUnionO_ok, by kernel_rfl⟩ (all_nil)))))))) lKeeps_eq

end
end Go.Vs.Rs
