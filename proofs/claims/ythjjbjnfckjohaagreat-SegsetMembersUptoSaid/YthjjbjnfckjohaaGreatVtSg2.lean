/- Each function of the program keeps what its values' function promises. -/
import Derived.Test.YthjjbjnfckjohaaGreatVtSg1
import Derived.Test.YthjjbjnfckjohaaGreatVtTab
import Derived.Test.YthjjbjnfckjohaaGreatProg
set_option linter.unusedVariables false
set_option maxRecDepth 100000
namespace Go.Vt.Sg
noncomputable section
open Go Go.Vt Go.Proofs

theorem tblOk : TabOk Tryz.prog tbl := tabB_ok (by kernel_rfl)
theorem mixed : Tryz.prog.follows .mixedOrders = true := by kernel_rfl

theorem isNaN_ok : isNaN_c.Ok Tryz.prog 73 :=
  printed (is := [2]) (cells := []) tblOk mixed Tryz.func73 (by kernel_rfl) Tryz.ntmps73 (by kernel_rfl) (by kernel_rfl) (all_nil) isNaN_eq

theorem cmpLess_ok : cmpLess_c.Ok Tryz.prog 122 :=
  printed (is := [4]) (cells := []) tblOk mixed Tryz.func122 (by kernel_rfl) Tryz.ntmps122 (by kernel_rfl) (by kernel_rfl) (all_cons ⟨isNaN_ok, by kernel_rfl⟩ (all_nil)) cmpLess_eq

theorem cmpLess_is (x y : Int) : cmpLess x y = i_less x y := by simp [cmpLess, isNaN, i_less]
theorem i_less_ok : i_less_c.Ok Tryz.prog 122 := fun v r h => cmpLess_ok v r ((cmpLess_is v.1 v.2.1).trans h)

theorem cmpCompare_ok : cmpCompare_c.Ok Tryz.prog 53 :=
  printed (is := [4]) (cells := []) tblOk mixed Tryz.func53 (by kernel_rfl) Tryz.ntmps53 (by kernel_rfl) (by kernel_rfl) (all_cons ⟨isNaN_ok, by kernel_rfl⟩ (all_nil)) cmpCompare_eq

theorem normLess_ok : normLess_c.Ok Tryz.prog 52 :=
  printed (is := [4]) (cells := []) tblOk mixed Tryz.func52 (by kernel_rfl) Tryz.ntmps52 (by kernel_rfl) (by kernel_rfl) (all_cons ⟨cmpCompare_ok, by kernel_rfl⟩ (all_nil)) normLess_eq

theorem normLess_is (p q : Int × Int) : normLess p q = c_cmp p q := by
  simp only [normLess, cmpCompare, isNaN, c_cmp, cmpv, Option.bind_some, bne_self_eq_false, cond_false]
  by_cases h1 : p.1 < q.1
  · simp [h1]
  · by_cases h2 : p.1 > q.1 <;> simp [h1, h2]
theorem c_cmp_ok : c_cmp_c.Ok Tryz.prog 52 := fun v r h => normLess_ok v r ((normLess_is v.1 v.2.1).trans h)

theorem isNaNS_ok : isNaNS_c.Ok Tryz.prog 115 :=
  printed (is := [2]) (cells := []) tblOk mixed Tryz.func115 (by kernel_rfl) Tryz.ntmps115 (by kernel_rfl) (by kernel_rfl) (all_nil) isNaNS_eq

theorem cmpLessS_ok : cmpLessS_c.Ok Tryz.prog 101 :=
  printed (is := [4]) (cells := []) tblOk mixed Tryz.func101 (by kernel_rfl) Tryz.ntmps101 (by kernel_rfl) (by kernel_rfl) (all_cons ⟨isNaNS_ok, by kernel_rfl⟩ (all_nil)) cmpLessS_eq

theorem cmpLessS_is (x y : List UInt8) : cmpLessS x y = s_less x y := by simp [cmpLessS, isNaNS, s_less]
theorem s_less_ok : s_less_c.Ok Tryz.prog 101 := fun v r h => cmpLessS_ok v r ((cmpLessS_is v.1 v.2.1).trans h)

theorem compactI_ok : compactI_c.Ok Tryz.prog 78 :=
  printed (is := [2]) (cells := []) tblOk mixed Tryz.func78 (by kernel_rfl) Tryz.ntmps78 (by kernel_rfl) (by kernel_rfl) (all_nil) compactI_eq

theorem compactS_ok : compactS_c.Ok Tryz.prog 55 :=
  printed (is := [2]) (cells := []) tblOk mixed Tryz.func55 (by kernel_rfl) Tryz.ntmps55 (by kernel_rfl) (by kernel_rfl) (all_nil) compactS_eq

theorem i_len64_ok : i_len64_c.Ok Tryz.prog 94 :=
  printed (is := [2]) (cells := []) tblOk mixed Tryz.func94 (by kernel_rfl) Tryz.ntmps94 (by kernel_rfl) (by kernel_rfl) (all_nil) i_len64_eq

theorem i_bitsLen_ok : i_bitsLen_c.Ok Tryz.prog 72 :=
  printed (is := [2]) (cells := []) tblOk mixed Tryz.func72 (by kernel_rfl) Tryz.ntmps72 (by kernel_rfl) (by kernel_rfl) (all_cons ⟨i_len64_ok, by kernel_rfl⟩ (all_nil)) i_bitsLen_eq

theorem i_nextPow_ok : i_nextPow_c.Ok Tryz.prog 108 :=
  printed (is := [2]) (cells := []) tblOk mixed Tryz.func108 (by kernel_rfl) Tryz.ntmps108 (by kernel_rfl) (by kernel_rfl) (all_cons ⟨i_bitsLen_ok, by kernel_rfl⟩ (all_nil)) i_nextPow_eq

theorem i_xorNext_ok : i_xorNext_c.Ok Tryz.prog 109 :=
  printed (is := [2]) (cells := []) tblOk mixed Tryz.func109 (by kernel_rfl) Tryz.ntmps109 (by kernel_rfl) (by kernel_rfl) (all_nil) i_xorNext_eq

theorem i_insSort_ok : i_insSort_c.Ok Tryz.prog 116 :=
  printed (is := []) (cells := []) tblOk mixed Tryz.func116 (by kernel_rfl) Tryz.ntmps116 (by kernel_rfl) (by kernel_rfl) (all_cons ⟨i_less_ok, by kernel_rfl⟩ (all_nil)) i_insSort_eq

theorem i_siftDown_ok : i_siftDown_c.Ok Tryz.prog 128 :=
  printed (is := []) (cells := []) tblOk mixed Tryz.func128 (by kernel_rfl) Tryz.ntmps128 (by kernel_rfl) (by kernel_rfl) (all_cons ⟨i_less_ok, by kernel_rfl⟩ (all_nil)) i_siftDown_eq

theorem i_heapSort_ok : i_heapSort_c.Ok Tryz.prog 117 :=
  printed (is := []) (cells := []) tblOk mixed Tryz.func117 (by kernel_rfl) Tryz.ntmps117 (by kernel_rfl) (by kernel_rfl) (all_cons ⟨i_siftDown_ok, by kernel_rfl⟩ (all_nil)) i_heapSort_eq

theorem i_breakPat_ok : i_breakPat_c.Ok Tryz.prog 118 :=
  printed (is := []) (cells := []) tblOk mixed Tryz.func118 (by kernel_rfl) Tryz.ntmps118 (by kernel_rfl) (by kernel_rfl) (all_cons ⟨i_nextPow_ok, by kernel_rfl⟩ (all_cons ⟨i_xorNext_ok, by kernel_rfl⟩ (all_nil))) i_breakPat_eq

theorem i_order2_ok : i_order2_c.Ok Tryz.prog 131 :=
  printed (is := [8, 9]) (cells := []) tblOk mixed Tryz.func131 (by kernel_rfl) Tryz.ntmps131 (by kernel_rfl) (by kernel_rfl) (all_cons ⟨i_less_ok, by kernel_rfl⟩ (all_nil)) i_order2_eq

theorem i_median_ok : i_median_c.Ok Tryz.prog 130 :=
  printed (is := [10]) (cells := []) tblOk mixed Tryz.func130 (by kernel_rfl) Tryz.ntmps130 (by kernel_rfl) (by kernel_rfl) (all_cons ⟨i_order2_ok, by kernel_rfl⟩ (all_nil)) i_median_eq

theorem i_medianAdj_ok : i_medianAdj_c.Ok Tryz.prog 129 :=
  printed (is := [6]) (cells := []) tblOk mixed Tryz.func129 (by kernel_rfl) Tryz.ntmps129 (by kernel_rfl) (by kernel_rfl) (all_cons ⟨i_median_ok, by kernel_rfl⟩ (all_nil)) i_medianAdj_eq

theorem i_choosePiv_ok : i_choosePiv_c.Ok Tryz.prog 119 :=
  printed (is := [6, 7]) (cells := []) tblOk mixed Tryz.func119 (by kernel_rfl) Tryz.ntmps119 (by kernel_rfl) (by kernel_rfl) (all_cons ⟨i_median_ok, by kernel_rfl⟩ (all_cons ⟨i_medianAdj_ok, by kernel_rfl⟩ (all_nil))) i_choosePiv_eq

theorem i_revRange_ok : i_revRange_c.Ok Tryz.prog 120 :=
  printed (is := []) (cells := []) tblOk mixed Tryz.func120 (by kernel_rfl) Tryz.ntmps120 (by kernel_rfl) (by kernel_rfl) (all_nil) i_revRange_eq

theorem i_partIns_ok : i_partIns_c.Ok Tryz.prog 121 :=
  printed (is := [6]) (cells := []) tblOk mixed Tryz.func121 (by kernel_rfl) Tryz.ntmps121 (by kernel_rfl) (by kernel_rfl) (all_cons ⟨i_less_ok, by kernel_rfl⟩ (all_nil)) i_partIns_eq

theorem i_partEq_ok : i_partEq_c.Ok Tryz.prog 123 :=
  printed (is := [8]) (cells := []) tblOk mixed Tryz.func123 (by kernel_rfl) Tryz.ntmps123 (by kernel_rfl) (by kernel_rfl) (all_cons ⟨i_less_ok, by kernel_rfl⟩ (all_nil)) i_partEq_eq

theorem i_partition_ok : i_partition_c.Ok Tryz.prog 124 :=
  printed (is := [8, 9]) (cells := []) tblOk mixed Tryz.func124 (by kernel_rfl) Tryz.ntmps124 (by kernel_rfl) (by kernel_rfl) (all_cons ⟨i_less_ok, by kernel_rfl⟩ (all_nil)) i_partition_eq

theorem i_pdq0_ok (i_pdqR : List Int → Int → Int → Int → Option (List Int × Unit)) (hi_pdqR : (i_pdqR_cR i_pdqR).Ok Tryz.prog 105) : (i_pdq0_c i_pdqR).Ok Tryz.prog 105 :=
  printed (is := []) (cells := []) tblOk mixed Tryz.func105 (by kernel_rfl) Tryz.ntmps105 (by kernel_rfl) (by kernel_rfl) (all_cons ⟨i_less_ok, by kernel_rfl⟩ (all_cons ⟨i_insSort_ok, by kernel_rfl⟩ (all_cons ⟨i_heapSort_ok, by kernel_rfl⟩ (all_cons ⟨i_breakPat_ok, by kernel_rfl⟩ (all_cons ⟨i_choosePiv_ok, by kernel_rfl⟩ (all_cons ⟨i_revRange_ok, by kernel_rfl⟩ (all_cons ⟨i_partIns_ok, by kernel_rfl⟩ (all_cons ⟨i_partEq_ok, by kernel_rfl⟩ (all_cons ⟨i_partition_ok, by kernel_rfl⟩ (all_cons ⟨hi_pdqR, by kernel_rfl⟩ (all_nil))))))))))) (i_pdq0_eq i_pdqR)

theorem i_pdqR_ok : ∀ N, (i_pdqR_cR (Srt.pdqN i_less N)).Ok Tryz.prog 105
  | 0 => fun v r h => by cases h
  | N + 1 => i_pdq0_ok (Srt.pdqN i_less N) (i_pdqR_ok N)

theorem i_sortG_ok (i_pdqR : List Int → Int → Int → Int → Option (List Int × Unit)) (hi_pdqR : (i_pdqR_cR i_pdqR).Ok Tryz.prog 105) : (i_sortG_c i_pdqR).Ok Tryz.prog 77 :=
  printed (is := []) (cells := []) tblOk mixed Tryz.func77 (by kernel_rfl) Tryz.ntmps77 (by kernel_rfl) (by kernel_rfl) (all_cons ⟨i_bitsLen_ok, by kernel_rfl⟩ (all_cons ⟨hi_pdqR, by kernel_rfl⟩ (all_nil))) (i_sortG_eq i_pdqR)

theorem sortI_ok : sortI_c.Ok Tryz.prog 77 := ok_of fun v r h => ⟨_, i_sortG_ok (Srt.pdqN i_less (List.length v.1 + 1)) (i_pdqR_ok _), h⟩

theorem s_insSort_ok : s_insSort_c.Ok Tryz.prog 95 :=
  printed (is := []) (cells := []) tblOk mixed Tryz.func95 (by kernel_rfl) Tryz.ntmps95 (by kernel_rfl) (by kernel_rfl) (all_cons ⟨s_less_ok, by kernel_rfl⟩ (all_nil)) s_insSort_eq

theorem s_siftDown_ok : s_siftDown_c.Ok Tryz.prog 112 :=
  printed (is := []) (cells := []) tblOk mixed Tryz.func112 (by kernel_rfl) Tryz.ntmps112 (by kernel_rfl) (by kernel_rfl) (all_cons ⟨s_less_ok, by kernel_rfl⟩ (all_nil)) s_siftDown_eq

theorem s_heapSort_ok : s_heapSort_c.Ok Tryz.prog 96 :=
  printed (is := []) (cells := []) tblOk mixed Tryz.func96 (by kernel_rfl) Tryz.ntmps96 (by kernel_rfl) (by kernel_rfl) (all_cons ⟨s_siftDown_ok, by kernel_rfl⟩ (all_nil)) s_heapSort_eq

theorem s_breakPat_ok : s_breakPat_c.Ok Tryz.prog 97 :=
  printed (is := []) (cells := []) tblOk mixed Tryz.func97 (by kernel_rfl) Tryz.ntmps97 (by kernel_rfl) (by kernel_rfl) (all_cons ⟨i_nextPow_ok, by kernel_rfl⟩ (all_cons ⟨i_xorNext_ok, by kernel_rfl⟩ (all_nil))) s_breakPat_eq

theorem s_order2_ok : s_order2_c.Ok Tryz.prog 127 :=
  printed (is := [8, 9]) (cells := []) tblOk mixed Tryz.func127 (by kernel_rfl) Tryz.ntmps127 (by kernel_rfl) (by kernel_rfl) (all_cons ⟨s_less_ok, by kernel_rfl⟩ (all_nil)) s_order2_eq

theorem s_median_ok : s_median_c.Ok Tryz.prog 114 :=
  printed (is := [10]) (cells := []) tblOk mixed Tryz.func114 (by kernel_rfl) Tryz.ntmps114 (by kernel_rfl) (by kernel_rfl) (all_cons ⟨s_order2_ok, by kernel_rfl⟩ (all_nil)) s_median_eq

theorem s_medianAdj_ok : s_medianAdj_c.Ok Tryz.prog 113 :=
  printed (is := [6]) (cells := []) tblOk mixed Tryz.func113 (by kernel_rfl) Tryz.ntmps113 (by kernel_rfl) (by kernel_rfl) (all_cons ⟨s_median_ok, by kernel_rfl⟩ (all_nil)) s_medianAdj_eq

theorem s_choosePiv_ok : s_choosePiv_c.Ok Tryz.prog 98 :=
  printed (is := [6, 7]) (cells := []) tblOk mixed Tryz.func98 (by kernel_rfl) Tryz.ntmps98 (by kernel_rfl) (by kernel_rfl) (all_cons ⟨s_median_ok, by kernel_rfl⟩ (all_cons ⟨s_medianAdj_ok, by kernel_rfl⟩ (all_nil))) s_choosePiv_eq

theorem s_revRange_ok : s_revRange_c.Ok Tryz.prog 99 :=
  printed (is := []) (cells := []) tblOk mixed Tryz.func99 (by kernel_rfl) Tryz.ntmps99 (by kernel_rfl) (by kernel_rfl) (all_nil) s_revRange_eq

theorem s_partIns_ok : s_partIns_c.Ok Tryz.prog 100 :=
  printed (is := [6]) (cells := []) tblOk mixed Tryz.func100 (by kernel_rfl) Tryz.ntmps100 (by kernel_rfl) (by kernel_rfl) (all_cons ⟨s_less_ok, by kernel_rfl⟩ (all_nil)) s_partIns_eq

theorem s_partEq_ok : s_partEq_c.Ok Tryz.prog 102 :=
  printed (is := [8]) (cells := []) tblOk mixed Tryz.func102 (by kernel_rfl) Tryz.ntmps102 (by kernel_rfl) (by kernel_rfl) (all_cons ⟨s_less_ok, by kernel_rfl⟩ (all_nil)) s_partEq_eq

theorem s_partition_ok : s_partition_c.Ok Tryz.prog 103 :=
  printed (is := [8, 9]) (cells := []) tblOk mixed Tryz.func103 (by kernel_rfl) Tryz.ntmps103 (by kernel_rfl) (by kernel_rfl) (all_cons ⟨s_less_ok, by kernel_rfl⟩ (all_nil)) s_partition_eq

theorem s_pdq0_ok (s_pdqR : List (List UInt8) → Int → Int → Int → Option (List (List UInt8) × Unit)) (hs_pdqR : (s_pdqR_cR s_pdqR).Ok Tryz.prog 74) : (s_pdq0_c s_pdqR).Ok Tryz.prog 74 :=
  printed (is := []) (cells := []) tblOk mixed Tryz.func74 (by kernel_rfl) Tryz.ntmps74 (by kernel_rfl) (by kernel_rfl) (all_cons ⟨s_less_ok, by kernel_rfl⟩ (all_cons ⟨s_insSort_ok, by kernel_rfl⟩ (all_cons ⟨s_heapSort_ok, by kernel_rfl⟩ (all_cons ⟨s_breakPat_ok, by kernel_rfl⟩ (all_cons ⟨s_choosePiv_ok, by kernel_rfl⟩ (all_cons ⟨s_revRange_ok, by kernel_rfl⟩ (all_cons ⟨s_partIns_ok, by kernel_rfl⟩ (all_cons ⟨s_partEq_ok, by kernel_rfl⟩ (all_cons ⟨s_partition_ok, by kernel_rfl⟩ (all_cons ⟨hs_pdqR, by kernel_rfl⟩ (all_nil))))))))))) (s_pdq0_eq s_pdqR)

theorem s_pdqR_ok : ∀ N, (s_pdqR_cR (Srt.pdqN s_less N)).Ok Tryz.prog 74
  | 0 => fun v r h => by cases h
  | N + 1 => s_pdq0_ok (Srt.pdqN s_less N) (s_pdqR_ok N)

theorem s_sortG_ok (s_pdqR : List (List UInt8) → Int → Int → Int → Option (List (List UInt8) × Unit)) (hs_pdqR : (s_pdqR_cR s_pdqR).Ok Tryz.prog 74) : (s_sortG_c s_pdqR).Ok Tryz.prog 54 :=
  printed (is := []) (cells := []) tblOk mixed Tryz.func54 (by kernel_rfl) Tryz.ntmps54 (by kernel_rfl) (by kernel_rfl) (all_cons ⟨i_bitsLen_ok, by kernel_rfl⟩ (all_cons ⟨hs_pdqR, by kernel_rfl⟩ (all_nil))) (s_sortG_eq s_pdqR)

theorem sortS_ok : sortS_c.Ok Tryz.prog 54 := ok_of fun v r h => ⟨_, s_sortG_ok (Srt.pdqN s_less (List.length v.1 + 1)) (s_pdqR_ok _), h⟩

theorem c_insSort_ok : c_insSort_c.Ok Tryz.prog 85 :=
  printed (is := []) (cells := []) tblOk mixed Tryz.func85 (by kernel_rfl) Tryz.ntmps85 (by kernel_rfl) (by kernel_rfl) (all_cons ⟨c_cmp_ok, by kernel_rfl⟩ (all_nil)) c_insSort_eq

theorem c_siftDown_ok : c_siftDown_c.Ok Tryz.prog 107 :=
  printed (is := []) (cells := []) tblOk mixed Tryz.func107 (by kernel_rfl) Tryz.ntmps107 (by kernel_rfl) (by kernel_rfl) (all_cons ⟨c_cmp_ok, by kernel_rfl⟩ (all_nil)) c_siftDown_eq

theorem c_heapSort_ok : c_heapSort_c.Ok Tryz.prog 86 :=
  printed (is := []) (cells := []) tblOk mixed Tryz.func86 (by kernel_rfl) Tryz.ntmps86 (by kernel_rfl) (by kernel_rfl) (all_cons ⟨c_siftDown_ok, by kernel_rfl⟩ (all_nil)) c_heapSort_eq

theorem c_breakPat_ok : c_breakPat_c.Ok Tryz.prog 87 :=
  printed (is := []) (cells := []) tblOk mixed Tryz.func87 (by kernel_rfl) Tryz.ntmps87 (by kernel_rfl) (by kernel_rfl) (all_cons ⟨i_nextPow_ok, by kernel_rfl⟩ (all_cons ⟨i_xorNext_ok, by kernel_rfl⟩ (all_nil))) c_breakPat_eq

theorem c_order2_ok : c_order2_c.Ok Tryz.prog 126 :=
  printed (is := [10, 11]) (cells := []) tblOk mixed Tryz.func126 (by kernel_rfl) Tryz.ntmps126 (by kernel_rfl) (by kernel_rfl) (all_cons ⟨c_cmp_ok, by kernel_rfl⟩ (all_nil)) c_order2_eq

theorem c_median_ok : c_median_c.Ok Tryz.prog 111 :=
  printed (is := [12]) (cells := []) tblOk mixed Tryz.func111 (by kernel_rfl) Tryz.ntmps111 (by kernel_rfl) (by kernel_rfl) (all_cons ⟨c_order2_ok, by kernel_rfl⟩ (all_nil)) c_median_eq

theorem c_medianAdj_ok : c_medianAdj_c.Ok Tryz.prog 110 :=
  printed (is := [8]) (cells := []) tblOk mixed Tryz.func110 (by kernel_rfl) Tryz.ntmps110 (by kernel_rfl) (by kernel_rfl) (all_cons ⟨c_median_ok, by kernel_rfl⟩ (all_nil)) c_medianAdj_eq

theorem c_choosePiv_ok : c_choosePiv_c.Ok Tryz.prog 88 :=
  printed (is := [8, 9]) (cells := []) tblOk mixed Tryz.func88 (by kernel_rfl) Tryz.ntmps88 (by kernel_rfl) (by kernel_rfl) (all_cons ⟨c_median_ok, by kernel_rfl⟩ (all_cons ⟨c_medianAdj_ok, by kernel_rfl⟩ (all_nil))) c_choosePiv_eq

theorem c_revRange_ok : c_revRange_c.Ok Tryz.prog 89 :=
  printed (is := []) (cells := []) tblOk mixed Tryz.func89 (by kernel_rfl) Tryz.ntmps89 (by kernel_rfl) (by kernel_rfl) (all_nil) c_revRange_eq

theorem c_partIns_ok : c_partIns_c.Ok Tryz.prog 90 :=
  printed (is := [8]) (cells := []) tblOk mixed Tryz.func90 (by kernel_rfl) Tryz.ntmps90 (by kernel_rfl) (by kernel_rfl) (all_cons ⟨c_cmp_ok, by kernel_rfl⟩ (all_nil)) c_partIns_eq

theorem c_partEq_ok : c_partEq_c.Ok Tryz.prog 91 :=
  printed (is := [10]) (cells := []) tblOk mixed Tryz.func91 (by kernel_rfl) Tryz.ntmps91 (by kernel_rfl) (by kernel_rfl) (all_cons ⟨c_cmp_ok, by kernel_rfl⟩ (all_nil)) c_partEq_eq

theorem c_partition_ok : c_partition_c.Ok Tryz.prog 92 :=
  printed (is := [10, 11]) (cells := []) tblOk mixed Tryz.func92 (by kernel_rfl) Tryz.ntmps92 (by kernel_rfl) (by kernel_rfl) (all_cons ⟨c_cmp_ok, by kernel_rfl⟩ (all_nil)) c_partition_eq

theorem c_pdq0_ok (c_pdqR : List (Int × Int) → Int → Int → Int → Option (List (Int × Int) × Unit)) (hc_pdqR : (c_pdqR_cR c_pdqR).Ok Tryz.prog 71) : (c_pdq0_c c_pdqR).Ok Tryz.prog 71 :=
  printed (is := []) (cells := []) tblOk mixed Tryz.func71 (by kernel_rfl) Tryz.ntmps71 (by kernel_rfl) (by kernel_rfl) (all_cons ⟨c_cmp_ok, by kernel_rfl⟩ (all_cons ⟨c_insSort_ok, by kernel_rfl⟩ (all_cons ⟨c_heapSort_ok, by kernel_rfl⟩ (all_cons ⟨c_breakPat_ok, by kernel_rfl⟩ (all_cons ⟨c_choosePiv_ok, by kernel_rfl⟩ (all_cons ⟨c_revRange_ok, by kernel_rfl⟩ (all_cons ⟨c_partIns_ok, by kernel_rfl⟩ (all_cons ⟨c_partEq_ok, by kernel_rfl⟩ (all_cons ⟨c_partition_ok, by kernel_rfl⟩ (all_cons ⟨hc_pdqR, by kernel_rfl⟩ (all_nil))))))))))) (c_pdq0_eq c_pdqR)

theorem c_pdqR_ok : ∀ N, (c_pdqR_cR (Srt.pdqN c_less N)).Ok Tryz.prog 71
  | 0 => fun v r h => by cases h
  | N + 1 => c_pdq0_ok (Srt.pdqN c_less N) (c_pdqR_ok N)

theorem c_sortG_ok (c_pdqR : List (Int × Int) → Int → Int → Int → Option (List (Int × Int) × Unit)) (hc_pdqR : (c_pdqR_cR c_pdqR).Ok Tryz.prog 71) : (c_sortG_c c_pdqR).Ok Tryz.prog 51 :=
  printed (is := []) (cells := []) tblOk mixed Tryz.func51 (by kernel_rfl) Tryz.ntmps51 (by kernel_rfl) (by kernel_rfl) (all_cons ⟨i_bitsLen_ok, by kernel_rfl⟩ (all_cons ⟨hc_pdqR, by kernel_rfl⟩ (all_nil))) (c_sortG_eq c_pdqR)

theorem sortF_ok : sortF_c.Ok Tryz.prog 51 := ok_of fun v r h => ⟨_, c_sortG_ok (Srt.pdqN c_less (List.length v.1 + 1)) (c_pdqR_ok _), h⟩

theorem refSame_ok : refSame_c.Ok Tryz.prog 24 :=
  printed (is := [4]) (cells := []) tblOk mixed Tryz.func24 (by kernel_rfl) Tryz.ntmps24 (by kernel_rfl) (by kernel_rfl) (all_nil) refSame_eq

theorem rNorm_ok : rNorm_c.Ok Tryz.prog 31 :=
  printed (is := [2]) (cells := []) tblOk mixed Tryz.func31 (by kernel_rfl) Tryz.ntmps31 (by kernel_rfl) (by kernel_rfl) (all_cons ⟨sortF_ok, by kernel_rfl⟩ (all_nil)) rNorm_eq

theorem slEqual_ok : slEqual_c.Ok Tryz.prog 61 :=
  printed (is := [4]) (cells := []) tblOk mixed Tryz.func61 (by kernel_rfl) Tryz.ntmps61 (by kernel_rfl) (by kernel_rfl) (all_nil) slEqual_eq

theorem uF_ok : uF_c.Ok Tryz.prog 57 :=
  printed (is := [4]) (cells := []) tblOk mixed Tryz.func57 (by kernel_rfl) Tryz.ntmps57 (by kernel_rfl) (by kernel_rfl) (all_nil) uF_eq

theorem mF_ok : mF_c.Ok Tryz.prog 59 :=
  printed (is := [4]) (cells := []) tblOk mixed Tryz.func59 (by kernel_rfl) Tryz.ntmps59 (by kernel_rfl) (by kernel_rfl) (all_nil) mF_eq

theorem dF_ok : dF_c.Ok Tryz.prog 60 :=
  printed (is := [4]) (cells := []) tblOk mixed Tryz.func60 (by kernel_rfl) Tryz.ntmps60 (by kernel_rfl) (by kernel_rfl) (all_nil) dF_eq

theorem grow_ok : grow_c.Ok Tryz.prog 104 :=
  printed (is := [4]) (cells := []) tblOk mixed Tryz.func104 (by kernel_rfl) Tryz.ntmps104 (by kernel_rfl) (by kernel_rfl) (all_nil) grow_eq

theorem concat_ok : concat_c.Ok Tryz.prog 76 :=
  printed (is := [2]) (cells := []) tblOk mixed Tryz.func76 (by kernel_rfl) Tryz.ntmps76 (by kernel_rfl) (by kernel_rfl) (all_cons ⟨grow_ok, by kernel_rfl⟩ (all_nil)) concat_eq

theorem runU_ok : runU_c.Ok Tryz.prog 58 :=
  printed (is := [6]) (cells := []) tblOk mixed Tryz.func58 (by kernel_rfl) Tryz.ntmps58 (by kernel_rfl) (by kernel_rfl) (all_cons ⟨sortI_ok, by kernel_rfl⟩ (all_cons ⟨compactI_ok, by kernel_rfl⟩ (all_cons ⟨rNorm_ok, by kernel_rfl⟩ (all_cons ⟨uF_ok, by kernel_rfl⟩ (all_cons ⟨concat_ok, by kernel_rfl⟩ (all_nil)))))) runU_eq

theorem runM_ok : runM_c.Ok Tryz.prog 58 :=
  printed (is := [6]) (cells := []) tblOk mixed Tryz.func58 (by kernel_rfl) Tryz.ntmps58 (by kernel_rfl) (by kernel_rfl) (all_cons ⟨sortI_ok, by kernel_rfl⟩ (all_cons ⟨compactI_ok, by kernel_rfl⟩ (all_cons ⟨rNorm_ok, by kernel_rfl⟩ (all_cons ⟨mF_ok, by kernel_rfl⟩ (all_cons ⟨concat_ok, by kernel_rfl⟩ (all_nil)))))) runM_eq

theorem runD_ok : runD_c.Ok Tryz.prog 58 :=
  printed (is := [6]) (cells := []) tblOk mixed Tryz.func58 (by kernel_rfl) Tryz.ntmps58 (by kernel_rfl) (by kernel_rfl) (all_cons ⟨sortI_ok, by kernel_rfl⟩ (all_cons ⟨compactI_ok, by kernel_rfl⟩ (all_cons ⟨rNorm_ok, by kernel_rfl⟩ (all_cons ⟨dF_ok, by kernel_rfl⟩ (all_cons ⟨concat_ok, by kernel_rfl⟩ (all_nil)))))) runD_eq

theorem rUnion_ok : rUnion_c.Ok Tryz.prog 34 :=
  printed (is := [4]) (cells := []) tblOk mixed Tryz.func34 (by kernel_rfl) Tryz.ntmps34 (by kernel_rfl) (by kernel_rfl) (all_cons ⟨runU_ok, by kernel_rfl⟩ (all_cons ⟨runM_ok, by kernel_rfl⟩ (all_cons ⟨runD_ok, by kernel_rfl⟩ (all_nil)))) rUnion_eq

theorem rMeet_ok : rMeet_c.Ok Tryz.prog 36 :=
  printed (is := [4]) (cells := []) tblOk mixed Tryz.func36 (by kernel_rfl) Tryz.ntmps36 (by kernel_rfl) (by kernel_rfl) (all_cons ⟨runU_ok, by kernel_rfl⟩ (all_cons ⟨runM_ok, by kernel_rfl⟩ (all_cons ⟨runD_ok, by kernel_rfl⟩ (all_nil)))) rMeet_eq

theorem rMinus_ok : rMinus_c.Ok Tryz.prog 38 :=
  printed (is := [4]) (cells := []) tblOk mixed Tryz.func38 (by kernel_rfl) Tryz.ntmps38 (by kernel_rfl) (by kernel_rfl) (all_cons ⟨runU_ok, by kernel_rfl⟩ (all_cons ⟨runM_ok, by kernel_rfl⟩ (all_cons ⟨runD_ok, by kernel_rfl⟩ (all_nil)))) rMinus_eq

theorem hasF_ok : hasF_c.Ok Tryz.prog 66 :=
  printed (is := [3]) (cells := []) tblOk mixed Tryz.func66 (by kernel_rfl) Tryz.ntmps66 (by kernel_rfl) (by kernel_rfl) (all_nil) hasF_eq

theorem indexFunc_ok : indexFunc_c.Ok Tryz.prog 83 :=
  printed (is := [4]) (cells := []) tblOk mixed Tryz.func83 (by kernel_rfl) Tryz.ntmps83 (by kernel_rfl) (by kernel_rfl) (all_cons ⟨hasF_ok, by kernel_rfl⟩ (all_nil)) indexFunc_eq

theorem containsFunc_ok : containsFunc_c.Ok Tryz.prog 65 :=
  printed (is := [4]) (cells := []) tblOk mixed Tryz.func65 (by kernel_rfl) Tryz.ntmps65 (by kernel_rfl) (by kernel_rfl) (all_cons ⟨indexFunc_ok, by kernel_rfl⟩ (all_nil)) containsFunc_eq

theorem rHas_ok : rHas_c.Ok Tryz.prog 42 :=
  printed (is := [4]) (cells := []) tblOk mixed Tryz.func42 (by kernel_rfl) Tryz.ntmps42 (by kernel_rfl) (by kernel_rfl) (all_cons ⟨containsFunc_ok, by kernel_rfl⟩ (all_nil)) rHas_eq

theorem refHas_ok : refHas_c.Ok Tryz.prog 44 :=
  printed (is := [4]) (cells := []) tblOk mixed Tryz.func44 (by kernel_rfl) Tryz.ntmps44 (by kernel_rfl) (by kernel_rfl) (all_nil) refHas_eq

theorem utfValid_ok : utfValid_c.Ok Tryz.prog 82 :=
  printed (is := [2]) (cells := []) tblOk mixed Tryz.func82 (by kernel_rfl) Tryz.ntmps82 (by kernel_rfl) (by kernel_rfl) (all_nil) utfValid_eq

theorem utfLead_ok : utfLead_c.Ok Tryz.prog 125 :=
  printed (is := [2, 3, 4, 5]) (cells := []) tblOk mixed Tryz.func125 (by kernel_rfl) Tryz.ntmps125 (by kernel_rfl) (by kernel_rfl) (all_nil) utfLead_eq

theorem utfOne_ok : utfOne_c.Ok Tryz.prog 106 :=
  printed (is := [2, 3, 4]) (cells := []) tblOk mixed Tryz.func106 (by kernel_rfl) Tryz.ntmps106 (by kernel_rfl) (by kernel_rfl) (all_cons ⟨utfLead_ok, by kernel_rfl⟩ (all_nil)) utfOne_eq

theorem utfNew_ok : utfNew_c.Ok Tryz.prog 79 :=
  printed (is := [0]) (cells := []) tblOk mixed Tryz.func79 (by kernel_rfl) Tryz.ntmps79 (by kernel_rfl) (by kernel_rfl) (all_nil) utfNew_eq

theorem utfWrite_ok : utfWrite_c.Ok Tryz.prog 80 :=
  printed (is := [4]) (cells := []) tblOk mixed Tryz.func80 (by kernel_rfl) Tryz.ntmps80 (by kernel_rfl) (by kernel_rfl) (all_cons ⟨utfOne_ok, by kernel_rfl⟩ (all_nil)) utfWrite_eq

theorem utfClose_ok : utfClose_c.Ok Tryz.prog 81 :=
  printed (is := [2]) (cells := []) tblOk mixed Tryz.func81 (by kernel_rfl) Tryz.ntmps81 (by kernel_rfl) (by kernel_rfl) (all_nil) utfClose_eq

theorem utfDecode_ok : utfDecode_c.Ok Tryz.prog 63 :=
  printed (is := [2]) (cells := []) tblOk mixed Tryz.func63 (by kernel_rfl) Tryz.ntmps63 (by kernel_rfl) (by kernel_rfl) (all_cons ⟨utfNew_ok, by kernel_rfl⟩ (all_cons ⟨utfWrite_ok, by kernel_rfl⟩ (all_cons ⟨utfClose_ok, by kernel_rfl⟩ (all_nil)))) utfDecode_eq

theorem utfEncode_ok : utfEncode_c.Ok Tryz.prog 64 :=
  printed (is := [2]) (cells := []) tblOk mixed Tryz.func64 (by kernel_rfl) Tryz.ntmps64 (by kernel_rfl) (by kernel_rfl) (all_cons ⟨utfValid_ok, by kernel_rfl⟩ (all_nil)) utfEncode_eq

theorem sRead_ok : sRead_c.Ok Tryz.prog 41 :=
  printed (is := [2, 3, 4]) (cells := []) tblOk mixed Tryz.func41 (by kernel_rfl) Tryz.ntmps41 (by kernel_rfl) (by kernel_rfl) (all_cons ⟨utfDecode_ok, by kernel_rfl⟩ (all_cons ⟨utfEncode_ok, by kernel_rfl⟩ (all_nil))) sRead_eq

theorem sOdd_ok : sOdd_c.Ok Tryz.prog 32 :=
  printed (is := [2]) (cells := []) tblOk mixed Tryz.func32 (by kernel_rfl) Tryz.ntmps32 (by kernel_rfl) (by kernel_rfl) (all_cons ⟨sortS_ok, by kernel_rfl⟩ (all_cons ⟨compactS_ok, by kernel_rfl⟩ (all_cons ⟨sRead_ok, by kernel_rfl⟩ (all_nil)))) sOdd_eq

theorem slEqualS_ok : slEqualS_c.Ok Tryz.prog 62 :=
  printed (is := [4]) (cells := []) tblOk mixed Tryz.func62 (by kernel_rfl) Tryz.ntmps62 (by kernel_rfl) (by kernel_rfl) (all_nil) slEqualS_eq

theorem sNorm_ok : sNorm_c.Ok Tryz.prog 9 :=
  printed (is := [13]) (cells := [(2, 25)]) tblOk mixed Tryz.func9 (by kernel_rfl) Tryz.ntmps9 (by kernel_rfl) (by kernel_rfl) (all_cons ⟨rNorm_ok, by kernel_rfl⟩ (all_cons ⟨sOdd_ok, by kernel_rfl⟩ (all_nil))) sNorm_eq

theorem sSame_ok : sSame_c.Ok Tryz.prog 40 :=
  printed (is := [4]) (cells := []) tblOk mixed Tryz.func40 (by kernel_rfl) Tryz.ntmps40 (by kernel_rfl) (by kernel_rfl) (all_cons ⟨slEqual_ok, by kernel_rfl⟩ (all_cons ⟨slEqualS_ok, by kernel_rfl⟩ (all_nil))) sSame_eq

theorem sMay_ok : sMay_c.Ok Tryz.prog 14 :=
  printed (is := [2]) (cells := []) tblOk mixed Tryz.func14 (by kernel_rfl) Tryz.ntmps14 (by kernel_rfl) (by kernel_rfl) (all_cons ⟨sNorm_ok, by kernel_rfl⟩ (all_cons ⟨sSame_ok, by kernel_rfl⟩ (all_nil))) sMay_eq

theorem indexS_ok : indexS_c.Ok Tryz.prog 67 :=
  printed (is := [4]) (cells := []) tblOk mixed Tryz.func67 (by kernel_rfl) Tryz.ntmps67 (by kernel_rfl) (by kernel_rfl) (all_nil) indexS_eq

theorem containsS_ok : containsS_c.Ok Tryz.prog 43 :=
  printed (is := [4]) (cells := []) tblOk mixed Tryz.func43 (by kernel_rfl) Tryz.ntmps43 (by kernel_rfl) (by kernel_rfl) (all_cons ⟨indexS_ok, by kernel_rfl⟩ (all_nil)) containsS_eq

theorem sHas_ok : sHas_c.Ok Tryz.prog 15 :=
  printed (is := [4]) (cells := []) tblOk mixed Tryz.func15 (by kernel_rfl) Tryz.ntmps15 (by kernel_rfl) (by kernel_rfl) (all_cons ⟨rHas_ok, by kernel_rfl⟩ (all_cons ⟨sRead_ok, by kernel_rfl⟩ (all_cons ⟨containsS_ok, by kernel_rfl⟩ (all_nil)))) sHas_eq

theorem sOf_ok : sOf_c.Ok Tryz.prog 27 :=
  printed (is := [31]) (cells := [(2, 25)]) tblOk mixed Tryz.func27 (by kernel_rfl) Tryz.ntmps27 (by kernel_rfl) (by kernel_rfl) (all_cons ⟨sRead_ok, by kernel_rfl⟩ (all_nil)) sOf_eq

theorem sFirst_ok : sFirst_c.Ok Tryz.prog 23 :=
  printed (is := [8]) (cells := [(2, 25)]) tblOk mixed Tryz.func23 (by kernel_rfl) Tryz.ntmps23 (by kernel_rfl) (by kernel_rfl) (all_cons ⟨rNorm_ok, by kernel_rfl⟩ (all_nil)) sFirst_eq

theorem sOnes_ok : sOnes_c.Ok Tryz.prog 28 :=
  printed (is := [6]) (cells := [(2, 25)]) tblOk mixed Tryz.func28 (by kernel_rfl) Tryz.ntmps28 (by kernel_rfl) (by kernel_rfl) (all_cons ⟨rNorm_ok, by kernel_rfl⟩ (all_nil)) sOnes_eq

theorem sAll_ok : sAll_c.Ok Tryz.prog 21 :=
  printed (is := [4]) (cells := [(0, 25)]) tblOk mixed Tryz.func21 (by kernel_rfl) Tryz.ntmps21 (by kernel_rfl) (by kernel_rfl) (all_cons ⟨sFirst_ok, by kernel_rfl⟩ (all_nil)) sAll_eq

theorem growS_ok : growS_c.Ok Tryz.prog 75 :=
  printed (is := [4]) (cells := []) tblOk mixed Tryz.func75 (by kernel_rfl) Tryz.ntmps75 (by kernel_rfl) (by kernel_rfl) (all_nil) growS_eq

theorem concatS_ok : concatS_c.Ok Tryz.prog 56 :=
  printed (is := [2]) (cells := []) tblOk mixed Tryz.func56 (by kernel_rfl) Tryz.ntmps56 (by kernel_rfl) (by kernel_rfl) (all_cons ⟨growS_ok, by kernel_rfl⟩ (all_nil)) concatS_eq

theorem kU_ok : kU_c.Ok Tryz.prog 35 :=
  printed (is := [4]) (cells := []) tblOk mixed Tryz.func35 (by kernel_rfl) Tryz.ntmps35 (by kernel_rfl) (by kernel_rfl) (all_nil) kU_eq

theorem kM_ok : kM_c.Ok Tryz.prog 37 :=
  printed (is := [4]) (cells := []) tblOk mixed Tryz.func37 (by kernel_rfl) Tryz.ntmps37 (by kernel_rfl) (by kernel_rfl) (all_nil) kM_eq

theorem kD_ok : kD_c.Ok Tryz.prog 39 :=
  printed (is := [4]) (cells := []) tblOk mixed Tryz.func39 (by kernel_rfl) Tryz.ntmps39 (by kernel_rfl) (by kernel_rfl) (all_nil) kD_eq

theorem joinU_ok : joinU_c.Ok Tryz.prog 33 :=
  printed (is := [71]) (cells := [(8, 25)]) tblOk mixed Tryz.func33 (by kernel_rfl) Tryz.ntmps33 (by kernel_rfl) (by kernel_rfl) (all_cons ⟨rUnion_ok, by kernel_rfl⟩ (all_cons ⟨rHas_ok, by kernel_rfl⟩ (all_cons ⟨sRead_ok, by kernel_rfl⟩ (all_cons ⟨sOdd_ok, by kernel_rfl⟩ (all_cons ⟨sNorm_ok, by kernel_rfl⟩ (all_cons ⟨sHas_ok, by kernel_rfl⟩ (all_cons ⟨concatS_ok, by kernel_rfl⟩ (all_cons ⟨kU_ok, by kernel_rfl⟩ (all_nil))))))))) joinU_eq

theorem joinM_ok : joinM_c.Ok Tryz.prog 33 :=
  printed (is := [71]) (cells := [(8, 25)]) tblOk mixed Tryz.func33 (by kernel_rfl) Tryz.ntmps33 (by kernel_rfl) (by kernel_rfl) (all_cons ⟨rMeet_ok, by kernel_rfl⟩ (all_cons ⟨rHas_ok, by kernel_rfl⟩ (all_cons ⟨sRead_ok, by kernel_rfl⟩ (all_cons ⟨sOdd_ok, by kernel_rfl⟩ (all_cons ⟨sNorm_ok, by kernel_rfl⟩ (all_cons ⟨sHas_ok, by kernel_rfl⟩ (all_cons ⟨concatS_ok, by kernel_rfl⟩ (all_cons ⟨kM_ok, by kernel_rfl⟩ (all_nil))))))))) joinM_eq

theorem joinD_ok : joinD_c.Ok Tryz.prog 33 :=
  printed (is := [71]) (cells := [(8, 25)]) tblOk mixed Tryz.func33 (by kernel_rfl) Tryz.ntmps33 (by kernel_rfl) (by kernel_rfl) (all_cons ⟨rMinus_ok, by kernel_rfl⟩ (all_cons ⟨rHas_ok, by kernel_rfl⟩ (all_cons ⟨sRead_ok, by kernel_rfl⟩ (all_cons ⟨sOdd_ok, by kernel_rfl⟩ (all_cons ⟨sNorm_ok, by kernel_rfl⟩ (all_cons ⟨sHas_ok, by kernel_rfl⟩ (all_cons ⟨concatS_ok, by kernel_rfl⟩ (all_cons ⟨kD_ok, by kernel_rfl⟩ (all_nil))))))))) joinD_eq

theorem sUnion_ok : sUnion_c.Ok Tryz.prog 10 :=
  printed (is := [8]) (cells := [(4, 25)]) tblOk mixed Tryz.func10 (by kernel_rfl) Tryz.ntmps10 (by kernel_rfl) (by kernel_rfl) (all_cons ⟨joinU_ok, by kernel_rfl⟩ (all_cons ⟨joinM_ok, by kernel_rfl⟩ (all_cons ⟨joinD_ok, by kernel_rfl⟩ (all_nil)))) sUnion_eq

theorem sMeet_ok : sMeet_c.Ok Tryz.prog 11 :=
  printed (is := [8]) (cells := [(4, 25)]) tblOk mixed Tryz.func11 (by kernel_rfl) Tryz.ntmps11 (by kernel_rfl) (by kernel_rfl) (all_cons ⟨joinU_ok, by kernel_rfl⟩ (all_cons ⟨joinM_ok, by kernel_rfl⟩ (all_cons ⟨joinD_ok, by kernel_rfl⟩ (all_nil)))) sMeet_eq

theorem sMinus_ok : sMinus_c.Ok Tryz.prog 12 :=
  printed (is := [8]) (cells := [(4, 25)]) tblOk mixed Tryz.func12 (by kernel_rfl) Tryz.ntmps12 (by kernel_rfl) (by kernel_rfl) (all_cons ⟨joinU_ok, by kernel_rfl⟩ (all_cons ⟨joinM_ok, by kernel_rfl⟩ (all_cons ⟨joinD_ok, by kernel_rfl⟩ (all_nil)))) sMinus_eq

theorem sNot_ok : sNot_c.Ok Tryz.prog 13 :=
  printed (is := [6]) (cells := [(2, 25)]) tblOk mixed Tryz.func13 (by kernel_rfl) Tryz.ntmps13 (by kernel_rfl) (by kernel_rfl) (all_cons ⟨sAll_ok, by kernel_rfl⟩ (all_cons ⟨sMinus_ok, by kernel_rfl⟩ (all_nil))) sNot_eq

theorem sEqual_ok : sEqual_c.Ok Tryz.prog 19 :=
  printed (is := [4]) (cells := []) tblOk mixed Tryz.func19 (by kernel_rfl) Tryz.ntmps19 (by kernel_rfl) (by kernel_rfl) (all_cons ⟨sNorm_ok, by kernel_rfl⟩ (all_cons ⟨sSame_ok, by kernel_rfl⟩ (all_nil))) sEqual_eq

theorem sEmpty_ok : sEmpty_c.Ok Tryz.prog 20 :=
  printed (is := [2]) (cells := []) tblOk mixed Tryz.func20 (by kernel_rfl) Tryz.ntmps20 (by kernel_rfl) (by kernel_rfl) (all_cons ⟨sEqual_ok, by kernel_rfl⟩ (all_nil)) sEmpty_eq

theorem row1_ok : row1_c.Ok Tryz.prog 84 :=
  printed (is := [2, 3]) (cells := []) tblOk mixed Tryz.func84 (by kernel_rfl) Tryz.ntmps84 (by kernel_rfl) (by kernel_rfl) (all_nil) row1_eq

theorem at1_ok : at1_c.Ok Tryz.prog 69 :=
  printed (is := [4, 5, 6]) (cells := []) tblOk mixed Tryz.func69 (by kernel_rfl) Tryz.ntmps69 (by kernel_rfl) (by kernel_rfl) (all_cons ⟨row1_ok, by kernel_rfl⟩ (all_nil)) at1_eq

theorem decode1_ok : decode1_c.Ok Tryz.prog 49 :=
  printed (is := [4]) (cells := []) tblOk mixed Tryz.func49 (by kernel_rfl) Tryz.ntmps49 (by kernel_rfl) (by kernel_rfl) (all_cons ⟨at1_ok, by kernel_rfl⟩ (all_nil)) decode1_eq

theorem runes1_ok : runes1_c.Ok Tryz.prog 29 :=
  printed (is := [2]) (cells := []) tblOk mixed Tryz.func29 (by kernel_rfl) Tryz.ntmps29 (by kernel_rfl) (by kernel_rfl) (all_cons ⟨decode1_ok, by kernel_rfl⟩ (all_nil)) runes1_eq

theorem valid1_ok : valid1_c.Ok Tryz.prog 70 :=
  printed (is := [2]) (cells := []) tblOk mixed Tryz.func70 (by kernel_rfl) Tryz.ntmps70 (by kernel_rfl) (by kernel_rfl) (all_nil) valid1_eq

theorem put1_ok : put1_c.Ok Tryz.prog 50 :=
  printed (is := [4]) (cells := []) tblOk mixed Tryz.func50 (by kernel_rfl) Tryz.ntmps50 (by kernel_rfl) (by kernel_rfl) (all_cons ⟨valid1_ok, by kernel_rfl⟩ (all_nil)) put1_eq

theorem encode1_ok : encode1_c.Ok Tryz.prog 30 :=
  printed (is := [2]) (cells := []) tblOk mixed Tryz.func30 (by kernel_rfl) Tryz.ntmps30 (by kernel_rfl) (by kernel_rfl) (all_cons ⟨put1_ok, by kernel_rfl⟩ (all_nil)) encode1_eq

theorem good6_ok : good6_c.Ok Tryz.prog 16 :=
  printed (is := [2]) (cells := []) tblOk mixed Tryz.func16 (by kernel_rfl) Tryz.ntmps16 (by kernel_rfl) (by kernel_rfl) (all_cons ⟨runes1_ok, by kernel_rfl⟩ (all_cons ⟨encode1_ok, by kernel_rfl⟩ (all_nil))) good6_eq

theorem sameTexts_ok : sameTexts_c.Ok Tryz.prog 45 :=
  printed (is := [4]) (cells := []) tblOk mixed Tryz.func45 (by kernel_rfl) Tryz.ntmps45 (by kernel_rfl) (by kernel_rfl) (all_nil) sameTexts_eq

theorem has6_ok : has6_c.Ok Tryz.prog 17 :=
  printed (is := [4]) (cells := []) tblOk mixed Tryz.func17 (by kernel_rfl) Tryz.ntmps17 (by kernel_rfl) (by kernel_rfl) (all_cons ⟨refHas_ok, by kernel_rfl⟩ (all_cons ⟨runes1_ok, by kernel_rfl⟩ (all_nil))) has6_eq

theorem same6_ok : same6_c.Ok Tryz.prog 18 :=
  printed (is := [4]) (cells := []) tblOk mixed Tryz.func18 (by kernel_rfl) Tryz.ntmps18 (by kernel_rfl) (by kernel_rfl) (all_cons ⟨refSame_ok, by kernel_rfl⟩ (all_cons ⟨sameTexts_ok, by kernel_rfl⟩ (all_nil))) same6_eq

theorem fixed_ok : fixed_c.Ok Tryz.prog 8 :=
  printed (is := [0]) (cells := []) tblOk mixed Tryz.func8 (by kernel_rfl) Tryz.ntmps8 (by kernel_rfl) (by kernel_rfl) (all_cons ⟨sNorm_ok, by kernel_rfl⟩ (all_cons ⟨sMay_ok, by kernel_rfl⟩ (all_cons ⟨sHas_ok, by kernel_rfl⟩ (all_cons ⟨sOf_ok, by kernel_rfl⟩ (all_cons ⟨sFirst_ok, by kernel_rfl⟩ (all_cons ⟨sOnes_ok, by kernel_rfl⟩ (all_cons ⟨sAll_ok, by kernel_rfl⟩ (all_cons ⟨sUnion_ok, by kernel_rfl⟩ (all_cons ⟨sMeet_ok, by kernel_rfl⟩ (all_cons ⟨sMinus_ok, by kernel_rfl⟩ (all_cons ⟨sNot_ok, by kernel_rfl⟩ (all_cons ⟨sEqual_ok, by kernel_rfl⟩ (all_cons ⟨sEmpty_ok, by kernel_rfl⟩ (all_nil)))))))))))))) fixed_eq

theorem lMembers_ok : lMembers_c.Ok Tryz.prog 3 :=
  printed (is := [6]) (cells := []) tblOk mixed Tryz.func3 (by kernel_rfl) Tryz.ntmps3 (by kernel_rfl) (by kernel_rfl) (all_cons ⟨sNorm_ok, by kernel_rfl⟩ (all_cons ⟨sMay_ok, by kernel_rfl⟩ (all_cons ⟨sHas_ok, by kernel_rfl⟩ (all_cons ⟨sUnion_ok, by kernel_rfl⟩ (all_cons ⟨sMeet_ok, by kernel_rfl⟩ (all_cons ⟨sMinus_ok, by kernel_rfl⟩ (all_cons ⟨sNot_ok, by kernel_rfl⟩ (all_cons ⟨good6_ok, by kernel_rfl⟩ (all_cons ⟨has6_ok, by kernel_rfl⟩ (all_cons ⟨fixed_ok, by kernel_rfl⟩ (all_nil))))))))))) lMembers_eq

theorem lAlgebra_ok : lAlgebra_c.Ok Tryz.prog 4 :=
  printed (is := [6]) (cells := []) tblOk mixed Tryz.func4 (by kernel_rfl) Tryz.ntmps4 (by kernel_rfl) (by kernel_rfl) (all_cons ⟨sNorm_ok, by kernel_rfl⟩ (all_cons ⟨sAll_ok, by kernel_rfl⟩ (all_cons ⟨sUnion_ok, by kernel_rfl⟩ (all_cons ⟨sMeet_ok, by kernel_rfl⟩ (all_cons ⟨sMinus_ok, by kernel_rfl⟩ (all_cons ⟨sNot_ok, by kernel_rfl⟩ (all_cons ⟨sEqual_ok, by kernel_rfl⟩ (all_cons ⟨sEmpty_ok, by kernel_rfl⟩ (all_cons ⟨same6_ok, by kernel_rfl⟩ (all_cons ⟨fixed_ok, by kernel_rfl⟩ (all_nil))))))))))) lAlgebra_eq

theorem lTexts_ok : lTexts_c.Ok Tryz.prog 6 :=
  printed (is := [4]) (cells := []) tblOk mixed Tryz.func6 (by kernel_rfl) Tryz.ntmps6 (by kernel_rfl) (by kernel_rfl) (all_cons ⟨sMay_ok, by kernel_rfl⟩ (all_cons ⟨sHas_ok, by kernel_rfl⟩ (all_cons ⟨sOf_ok, by kernel_rfl⟩ (all_cons ⟨sUnion_ok, by kernel_rfl⟩ (all_cons ⟨good6_ok, by kernel_rfl⟩ (all_cons ⟨fixed_ok, by kernel_rfl⟩ (all_nil))))))) lTexts_eq

theorem lFirsts_ok : lFirsts_c.Ok Tryz.prog 7 :=
  printed (is := [4]) (cells := []) tblOk mixed Tryz.func7 (by kernel_rfl) Tryz.ntmps7 (by kernel_rfl) (by kernel_rfl) (all_cons ⟨sHas_ok, by kernel_rfl⟩ (all_cons ⟨sFirst_ok, by kernel_rfl⟩ (all_cons ⟨sOnes_ok, by kernel_rfl⟩ (all_cons ⟨sUnion_ok, by kernel_rfl⟩ (all_cons ⟨sMeet_ok, by kernel_rfl⟩ (all_cons ⟨sNot_ok, by kernel_rfl⟩ (all_cons ⟨sEqual_ok, by kernel_rfl⟩ (all_cons ⟨runes1_ok, by kernel_rfl⟩ (all_cons ⟨encode1_ok, by kernel_rfl⟩ (all_cons ⟨fixed_ok, by kernel_rfl⟩ (all_nil))))))))))) lFirsts_eq

end
end Go.Vt.Sg
