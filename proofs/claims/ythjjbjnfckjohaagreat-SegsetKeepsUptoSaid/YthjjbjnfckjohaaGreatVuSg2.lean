/- Each function of the program keeps what its values' function promises. -/
import Derived.Test.YthjjbjnfckjohaaGreatVuSg1
import Derived.Test.YthjjbjnfckjohaaGreatVuTab
import Derived.Test.YthjjbjnfckjohaaGreatProg
set_option linter.unusedVariables false
set_option maxRecDepth 100000
namespace Go.Vu.Sg
noncomputable section
open Go Go.Vu Go.Proofs
theorem tblOk : TabOk Tryz.prog tbl := tabB_ok (by kernel_rfl)
theorem mixed : Tryz.prog.follows .mixedOrders = true := by kernel_rfl
theorem pr {g : List (Nat × Ctr)} {H : Nat → Option LH} {f : Nat} {fn : Func} {c : Ctr} {is : List Nat} {cells : List (Nat × Nat)} {n : Nat} {lp : List (Nat × Ty)} (hf : Tryz.prog.funcs[f]? = some fn) (hn : fn.ntmps = n)
  (hg : ∀ p ∈ g, p.2.Ok Tryz.prog p.1 ∧ enters Tryz.prog p.1 = true) (he : ∀ v, semF tbl (gam g) H fuelN n (bodyOf fn) lp c.ps c.rs is cells v = c.g v)
  (hb : fn.body.isSome = true := by kernel_rfl) (hres : fn.results = (is.map (resVar n cells)).toArray := by kernel_rfl) (hps : modesOk c lp (bodyOf fn) cells n = true := by kernel_rfl) : c.Ok Tryz.prog f :=
 printed tblOk mixed hf hb hn hres hps hg he
theorem isNaN_ok : isNaN_c.Ok Tryz.prog 73 :=
 pr Tryz.func73 Tryz.ntmps73 (all_nil) isNaN_eq
theorem cmpLess_ok : cmpLess_c.Ok Tryz.prog 122 :=
 pr Tryz.func122 Tryz.ntmps122 (all_cons ⟨isNaN_ok, by kernel_rfl⟩ (all_nil)) cmpLess_eq
theorem cmpLess_is (x y : Int) : cmpLess x y = i_less x y := by simp [cmpLess, isNaN, i_less]
theorem i_less_ok : i_less_c.Ok Tryz.prog 122 := fun v r h => cmpLess_ok v r ((cmpLess_is v.1 v.2.1).trans h)
theorem cmpCompare_ok : cmpCompare_c.Ok Tryz.prog 53 :=
 pr Tryz.func53 Tryz.ntmps53 (all_cons ⟨isNaN_ok, by kernel_rfl⟩ (all_nil)) cmpCompare_eq
theorem normLess_ok : normLess_c.Ok Tryz.prog 52 :=
 pr Tryz.func52 Tryz.ntmps52 (all_cons ⟨cmpCompare_ok, by kernel_rfl⟩ (all_nil)) normLess_eq
theorem normLess_is (p q : Int × Int) : normLess p q = c_cmp p q := by
 simp only [normLess, cmpCompare, isNaN, c_cmp, cmpv, Option.bind_some, bne_self_eq_false, cond_false]
 by_cases h1 : p.1 < q.1
 ·simp [h1]
 ·by_cases h2 : p.1 > q.1 <;> simp [h1, h2]
theorem c_cmp_ok : c_cmp_c.Ok Tryz.prog 52 := fun v r h => normLess_ok v r ((normLess_is v.1 v.2.1).trans h)
theorem isNaNS_ok : isNaNS_c.Ok Tryz.prog 115 :=
 pr Tryz.func115 Tryz.ntmps115 (all_nil) isNaNS_eq
theorem cmpLessS_ok : cmpLessS_c.Ok Tryz.prog 101 :=
 pr Tryz.func101 Tryz.ntmps101 (all_cons ⟨isNaNS_ok, by kernel_rfl⟩ (all_nil)) cmpLessS_eq
theorem cmpLessS_is (x y : List UInt8) : cmpLessS x y = s_less x y := by simp [cmpLessS, isNaNS, s_less]
theorem s_less_ok : s_less_c.Ok Tryz.prog 101 := fun v r h => cmpLessS_ok v r ((cmpLessS_is v.1 v.2.1).trans h)
theorem compactI_ok : compactI_c.Ok Tryz.prog 78 :=
 pr Tryz.func78 Tryz.ntmps78 (all_nil) compactI_eq
theorem compactS_ok : compactS_c.Ok Tryz.prog 55 :=
 pr Tryz.func55 Tryz.ntmps55 (all_nil) compactS_eq
theorem i_len64_ok : i_len64_c.Ok Tryz.prog 94 :=
 pr Tryz.func94 Tryz.ntmps94 (all_nil) i_len64_eq
theorem i_bitsLen_ok : i_bitsLen_c.Ok Tryz.prog 72 :=
 pr Tryz.func72 Tryz.ntmps72 (all_cons ⟨i_len64_ok, by kernel_rfl⟩ (all_nil)) i_bitsLen_eq
theorem i_nextPow_ok : i_nextPow_c.Ok Tryz.prog 108 :=
 pr Tryz.func108 Tryz.ntmps108 (all_cons ⟨i_bitsLen_ok, by kernel_rfl⟩ (all_nil)) i_nextPow_eq
theorem i_xorNext_ok : i_xorNext_c.Ok Tryz.prog 109 :=
 pr Tryz.func109 Tryz.ntmps109 (all_nil) i_xorNext_eq
theorem i_insSort_ok : i_insSort_c.Ok Tryz.prog 116 :=
 pr Tryz.func116 Tryz.ntmps116 (all_cons ⟨i_less_ok, by kernel_rfl⟩ (all_nil)) i_insSort_eq
theorem i_siftDown_ok : i_siftDown_c.Ok Tryz.prog 128 :=
 pr Tryz.func128 Tryz.ntmps128 (all_cons ⟨i_less_ok, by kernel_rfl⟩ (all_nil)) i_siftDown_eq
theorem i_heapSort_ok : i_heapSort_c.Ok Tryz.prog 117 :=
 pr Tryz.func117 Tryz.ntmps117 (all_cons ⟨i_siftDown_ok, by kernel_rfl⟩ (all_nil)) i_heapSort_eq
theorem i_breakPat_ok : i_breakPat_c.Ok Tryz.prog 118 :=
 pr Tryz.func118 Tryz.ntmps118 (all_cons ⟨i_nextPow_ok, by kernel_rfl⟩ (all_cons ⟨i_xorNext_ok, by kernel_rfl⟩ (all_nil))) i_breakPat_eq
theorem i_order2_ok : i_order2_c.Ok Tryz.prog 131 :=
 pr Tryz.func131 Tryz.ntmps131 (all_cons ⟨i_less_ok, by kernel_rfl⟩ (all_nil)) i_order2_eq
theorem i_median_ok : i_median_c.Ok Tryz.prog 130 :=
 pr Tryz.func130 Tryz.ntmps130 (all_cons ⟨i_order2_ok, by kernel_rfl⟩ (all_nil)) i_median_eq
theorem i_medianAdj_ok : i_medianAdj_c.Ok Tryz.prog 129 :=
 pr Tryz.func129 Tryz.ntmps129 (all_cons ⟨i_median_ok, by kernel_rfl⟩ (all_nil)) i_medianAdj_eq
theorem i_choosePiv_ok : i_choosePiv_c.Ok Tryz.prog 119 :=
 pr Tryz.func119 Tryz.ntmps119 (all_cons ⟨i_median_ok, by kernel_rfl⟩ (all_cons ⟨i_medianAdj_ok, by kernel_rfl⟩ (all_nil))) i_choosePiv_eq
theorem i_revRange_ok : i_revRange_c.Ok Tryz.prog 120 :=
 pr Tryz.func120 Tryz.ntmps120 (all_nil) i_revRange_eq
theorem i_partIns_ok : i_partIns_c.Ok Tryz.prog 121 :=
 pr Tryz.func121 Tryz.ntmps121 (all_cons ⟨i_less_ok, by kernel_rfl⟩ (all_nil)) i_partIns_eq
theorem i_partEq_ok : i_partEq_c.Ok Tryz.prog 123 :=
 pr Tryz.func123 Tryz.ntmps123 (all_cons ⟨i_less_ok, by kernel_rfl⟩ (all_nil)) i_partEq_eq
theorem i_partition_ok : i_partition_c.Ok Tryz.prog 124 :=
 pr Tryz.func124 Tryz.ntmps124 (all_cons ⟨i_less_ok, by kernel_rfl⟩ (all_nil)) i_partition_eq
theorem i_pdq0_ok (i_pdqR : List Int → Int → Int → Int → Option (List Int × Unit)) (hi_pdqR : (i_pdqR_cR i_pdqR).Ok Tryz.prog 105) : (i_pdq0_c i_pdqR).Ok Tryz.prog 105 :=
 pr Tryz.func105 Tryz.ntmps105 (all_cons ⟨i_less_ok, by kernel_rfl⟩ (all_cons ⟨i_insSort_ok, by kernel_rfl⟩ (all_cons ⟨i_heapSort_ok, by kernel_rfl⟩ (all_cons ⟨i_breakPat_ok, by kernel_rfl⟩ (all_cons ⟨i_choosePiv_ok, by kernel_rfl⟩ (all_cons ⟨i_revRange_ok, by kernel_rfl⟩ (all_cons ⟨i_partIns_ok, by kernel_rfl⟩ (all_cons ⟨i_partEq_ok, by kernel_rfl⟩ (all_cons ⟨i_partition_ok, by kernel_rfl⟩ (all_cons ⟨hi_pdqR, by kernel_rfl⟩ (all_nil))))))))))) (i_pdq0_eq i_pdqR)
theorem i_pdqR_ok : ∀ N, (i_pdqR_cR (Srt.pdqN i_less N)).Ok Tryz.prog 105
 | 0 => fun v r h => by cases h
 | N + 1 => i_pdq0_ok (Srt.pdqN i_less N) (i_pdqR_ok N)
theorem i_sortG_ok (i_pdqR : List Int → Int → Int → Int → Option (List Int × Unit)) (hi_pdqR : (i_pdqR_cR i_pdqR).Ok Tryz.prog 105) : (i_sortG_c i_pdqR).Ok Tryz.prog 77 :=
 pr Tryz.func77 Tryz.ntmps77 (all_cons ⟨i_bitsLen_ok, by kernel_rfl⟩ (all_cons ⟨hi_pdqR, by kernel_rfl⟩ (all_nil))) (i_sortG_eq i_pdqR)
theorem sortI_ok : sortI_c.Ok Tryz.prog 77 := ok_of fun v r h => ⟨_, i_sortG_ok (Srt.pdqN i_less (List.length v.1 + 1)) (i_pdqR_ok _), h⟩
theorem s_insSort_ok : s_insSort_c.Ok Tryz.prog 95 :=
 pr Tryz.func95 Tryz.ntmps95 (all_cons ⟨s_less_ok, by kernel_rfl⟩ (all_nil)) s_insSort_eq
theorem s_siftDown_ok : s_siftDown_c.Ok Tryz.prog 112 :=
 pr Tryz.func112 Tryz.ntmps112 (all_cons ⟨s_less_ok, by kernel_rfl⟩ (all_nil)) s_siftDown_eq
theorem s_heapSort_ok : s_heapSort_c.Ok Tryz.prog 96 :=
 pr Tryz.func96 Tryz.ntmps96 (all_cons ⟨s_siftDown_ok, by kernel_rfl⟩ (all_nil)) s_heapSort_eq
theorem s_breakPat_ok : s_breakPat_c.Ok Tryz.prog 97 :=
 pr Tryz.func97 Tryz.ntmps97 (all_cons ⟨i_nextPow_ok, by kernel_rfl⟩ (all_cons ⟨i_xorNext_ok, by kernel_rfl⟩ (all_nil))) s_breakPat_eq
theorem s_order2_ok : s_order2_c.Ok Tryz.prog 127 :=
 pr Tryz.func127 Tryz.ntmps127 (all_cons ⟨s_less_ok, by kernel_rfl⟩ (all_nil)) s_order2_eq
theorem s_median_ok : s_median_c.Ok Tryz.prog 114 :=
 pr Tryz.func114 Tryz.ntmps114 (all_cons ⟨s_order2_ok, by kernel_rfl⟩ (all_nil)) s_median_eq
theorem s_medianAdj_ok : s_medianAdj_c.Ok Tryz.prog 113 :=
 pr Tryz.func113 Tryz.ntmps113 (all_cons ⟨s_median_ok, by kernel_rfl⟩ (all_nil)) s_medianAdj_eq
theorem s_choosePiv_ok : s_choosePiv_c.Ok Tryz.prog 98 :=
 pr Tryz.func98 Tryz.ntmps98 (all_cons ⟨s_median_ok, by kernel_rfl⟩ (all_cons ⟨s_medianAdj_ok, by kernel_rfl⟩ (all_nil))) s_choosePiv_eq
theorem s_revRange_ok : s_revRange_c.Ok Tryz.prog 99 :=
 pr Tryz.func99 Tryz.ntmps99 (all_nil) s_revRange_eq
theorem s_partIns_ok : s_partIns_c.Ok Tryz.prog 100 :=
 pr Tryz.func100 Tryz.ntmps100 (all_cons ⟨s_less_ok, by kernel_rfl⟩ (all_nil)) s_partIns_eq
theorem s_partEq_ok : s_partEq_c.Ok Tryz.prog 102 :=
 pr Tryz.func102 Tryz.ntmps102 (all_cons ⟨s_less_ok, by kernel_rfl⟩ (all_nil)) s_partEq_eq
theorem s_partition_ok : s_partition_c.Ok Tryz.prog 103 :=
 pr Tryz.func103 Tryz.ntmps103 (all_cons ⟨s_less_ok, by kernel_rfl⟩ (all_nil)) s_partition_eq
theorem s_pdq0_ok (s_pdqR : List (List UInt8) → Int → Int → Int → Option (List (List UInt8) × Unit)) (hs_pdqR : (s_pdqR_cR s_pdqR).Ok Tryz.prog 74) : (s_pdq0_c s_pdqR).Ok Tryz.prog 74 :=
 pr Tryz.func74 Tryz.ntmps74 (all_cons ⟨s_less_ok, by kernel_rfl⟩ (all_cons ⟨s_insSort_ok, by kernel_rfl⟩ (all_cons ⟨s_heapSort_ok, by kernel_rfl⟩ (all_cons ⟨s_breakPat_ok, by kernel_rfl⟩ (all_cons ⟨s_choosePiv_ok, by kernel_rfl⟩ (all_cons ⟨s_revRange_ok, by kernel_rfl⟩ (all_cons ⟨s_partIns_ok, by kernel_rfl⟩ (all_cons ⟨s_partEq_ok, by kernel_rfl⟩ (all_cons ⟨s_partition_ok, by kernel_rfl⟩ (all_cons ⟨hs_pdqR, by kernel_rfl⟩ (all_nil))))))))))) (s_pdq0_eq s_pdqR)
theorem s_pdqR_ok : ∀ N, (s_pdqR_cR (Srt.pdqN s_less N)).Ok Tryz.prog 74
 | 0 => fun v r h => by cases h
 | N + 1 => s_pdq0_ok (Srt.pdqN s_less N) (s_pdqR_ok N)
theorem s_sortG_ok (s_pdqR : List (List UInt8) → Int → Int → Int → Option (List (List UInt8) × Unit)) (hs_pdqR : (s_pdqR_cR s_pdqR).Ok Tryz.prog 74) : (s_sortG_c s_pdqR).Ok Tryz.prog 54 :=
 pr Tryz.func54 Tryz.ntmps54 (all_cons ⟨i_bitsLen_ok, by kernel_rfl⟩ (all_cons ⟨hs_pdqR, by kernel_rfl⟩ (all_nil))) (s_sortG_eq s_pdqR)
theorem sortS_ok : sortS_c.Ok Tryz.prog 54 := ok_of fun v r h => ⟨_, s_sortG_ok (Srt.pdqN s_less (List.length v.1 + 1)) (s_pdqR_ok _), h⟩
theorem c_insSort_ok : c_insSort_c.Ok Tryz.prog 85 :=
 pr Tryz.func85 Tryz.ntmps85 (all_cons ⟨c_cmp_ok, by kernel_rfl⟩ (all_nil)) c_insSort_eq
theorem c_siftDown_ok : c_siftDown_c.Ok Tryz.prog 107 :=
 pr Tryz.func107 Tryz.ntmps107 (all_cons ⟨c_cmp_ok, by kernel_rfl⟩ (all_nil)) c_siftDown_eq
theorem c_heapSort_ok : c_heapSort_c.Ok Tryz.prog 86 :=
 pr Tryz.func86 Tryz.ntmps86 (all_cons ⟨c_siftDown_ok, by kernel_rfl⟩ (all_nil)) c_heapSort_eq
theorem c_breakPat_ok : c_breakPat_c.Ok Tryz.prog 87 :=
 pr Tryz.func87 Tryz.ntmps87 (all_cons ⟨i_nextPow_ok, by kernel_rfl⟩ (all_cons ⟨i_xorNext_ok, by kernel_rfl⟩ (all_nil))) c_breakPat_eq
theorem c_order2_ok : c_order2_c.Ok Tryz.prog 126 :=
 pr Tryz.func126 Tryz.ntmps126 (all_cons ⟨c_cmp_ok, by kernel_rfl⟩ (all_nil)) c_order2_eq
theorem c_median_ok : c_median_c.Ok Tryz.prog 111 :=
 pr Tryz.func111 Tryz.ntmps111 (all_cons ⟨c_order2_ok, by kernel_rfl⟩ (all_nil)) c_median_eq
theorem c_medianAdj_ok : c_medianAdj_c.Ok Tryz.prog 110 :=
 pr Tryz.func110 Tryz.ntmps110 (all_cons ⟨c_median_ok, by kernel_rfl⟩ (all_nil)) c_medianAdj_eq
theorem c_choosePiv_ok : c_choosePiv_c.Ok Tryz.prog 88 :=
 pr Tryz.func88 Tryz.ntmps88 (all_cons ⟨c_median_ok, by kernel_rfl⟩ (all_cons ⟨c_medianAdj_ok, by kernel_rfl⟩ (all_nil))) c_choosePiv_eq
theorem c_revRange_ok : c_revRange_c.Ok Tryz.prog 89 :=
 pr Tryz.func89 Tryz.ntmps89 (all_nil) c_revRange_eq
theorem c_partIns_ok : c_partIns_c.Ok Tryz.prog 90 :=
 pr Tryz.func90 Tryz.ntmps90 (all_cons ⟨c_cmp_ok, by kernel_rfl⟩ (all_nil)) c_partIns_eq
theorem c_partEq_ok : c_partEq_c.Ok Tryz.prog 91 :=
 pr Tryz.func91 Tryz.ntmps91 (all_cons ⟨c_cmp_ok, by kernel_rfl⟩ (all_nil)) c_partEq_eq
theorem c_partition_ok : c_partition_c.Ok Tryz.prog 92 :=
 pr Tryz.func92 Tryz.ntmps92 (all_cons ⟨c_cmp_ok, by kernel_rfl⟩ (all_nil)) c_partition_eq
theorem c_pdq0_ok (c_pdqR : List (Int × Int) → Int → Int → Int → Option (List (Int × Int) × Unit)) (hc_pdqR : (c_pdqR_cR c_pdqR).Ok Tryz.prog 71) : (c_pdq0_c c_pdqR).Ok Tryz.prog 71 :=
 pr Tryz.func71 Tryz.ntmps71 (all_cons ⟨c_cmp_ok, by kernel_rfl⟩ (all_cons ⟨c_insSort_ok, by kernel_rfl⟩ (all_cons ⟨c_heapSort_ok, by kernel_rfl⟩ (all_cons ⟨c_breakPat_ok, by kernel_rfl⟩ (all_cons ⟨c_choosePiv_ok, by kernel_rfl⟩ (all_cons ⟨c_revRange_ok, by kernel_rfl⟩ (all_cons ⟨c_partIns_ok, by kernel_rfl⟩ (all_cons ⟨c_partEq_ok, by kernel_rfl⟩ (all_cons ⟨c_partition_ok, by kernel_rfl⟩ (all_cons ⟨hc_pdqR, by kernel_rfl⟩ (all_nil))))))))))) (c_pdq0_eq c_pdqR)
theorem c_pdqR_ok : ∀ N, (c_pdqR_cR (Srt.pdqN c_less N)).Ok Tryz.prog 71
 | 0 => fun v r h => by cases h
 | N + 1 => c_pdq0_ok (Srt.pdqN c_less N) (c_pdqR_ok N)
theorem c_sortG_ok (c_pdqR : List (Int × Int) → Int → Int → Int → Option (List (Int × Int) × Unit)) (hc_pdqR : (c_pdqR_cR c_pdqR).Ok Tryz.prog 71) : (c_sortG_c c_pdqR).Ok Tryz.prog 51 :=
 pr Tryz.func51 Tryz.ntmps51 (all_cons ⟨i_bitsLen_ok, by kernel_rfl⟩ (all_cons ⟨hc_pdqR, by kernel_rfl⟩ (all_nil))) (c_sortG_eq c_pdqR)
theorem sortF_ok : sortF_c.Ok Tryz.prog 51 := ok_of fun v r h => ⟨_, c_sortG_ok (Srt.pdqN c_less (List.length v.1 + 1)) (c_pdqR_ok _), h⟩
theorem refSame_ok : refSame_c.Ok Tryz.prog 24 :=
 pr Tryz.func24 Tryz.ntmps24 (all_nil) refSame_eq
theorem refClipped_ok : refClipped_c.Ok Tryz.prog 47 :=
 pr Tryz.func47 Tryz.ntmps47 (all_nil) refClipped_eq
theorem refSorted0_ok (refSorted : List (Int × Int) → Option (Unit × (List (Int × Int) × Unit))) (hrefSorted : (refSorted_cR refSorted).Ok Tryz.prog 46) : (refSorted0_c refSorted).Ok Tryz.prog 46 :=
 pr Tryz.func46 Tryz.ntmps46 (all_cons ⟨hrefSorted, by kernel_rfl⟩ (all_nil)) (refSorted0_eq refSorted)
theorem refSortedR_ok : ∀ N, (refSorted_cR (refSortedN N)).Ok Tryz.prog 46
 | 0 => fun v r h => by cases h
 | N + 1 => refSorted0_ok (refSortedN N) (refSortedR_ok N)
theorem refSorted_ok : refSorted_c.Ok Tryz.prog 46 := fun v r h => refSortedR_ok (v.1.length + 1) v r h
theorem refNorm_ok : refNorm_c.Ok Tryz.prog 25 :=
 pr Tryz.func25 Tryz.ntmps25 (all_cons ⟨refSorted_ok, by kernel_rfl⟩ (all_cons ⟨refClipped_ok, by kernel_rfl⟩ (all_nil))) refNorm_eq
theorem rNorm_ok : rNorm_c.Ok Tryz.prog 31 :=
 pr Tryz.func31 Tryz.ntmps31 (all_cons ⟨sortF_ok, by kernel_rfl⟩ (all_nil)) rNorm_eq
theorem slEqual_ok : slEqual_c.Ok Tryz.prog 61 :=
 pr Tryz.func61 Tryz.ntmps61 (all_nil) slEqual_eq
theorem uF_ok : uF_c.Ok Tryz.prog 57 :=
 pr Tryz.func57 Tryz.ntmps57 (all_nil) uF_eq
theorem mF_ok : mF_c.Ok Tryz.prog 59 :=
 pr Tryz.func59 Tryz.ntmps59 (all_nil) mF_eq
theorem dF_ok : dF_c.Ok Tryz.prog 60 :=
 pr Tryz.func60 Tryz.ntmps60 (all_nil) dF_eq
theorem grow_ok : grow_c.Ok Tryz.prog 104 :=
 pr Tryz.func104 Tryz.ntmps104 (all_nil) grow_eq
theorem concat_ok : concat_c.Ok Tryz.prog 76 :=
 pr Tryz.func76 Tryz.ntmps76 (all_cons ⟨grow_ok, by kernel_rfl⟩ (all_nil)) concat_eq
theorem runU_ok : runU_c.Ok Tryz.prog 58 :=
 pr Tryz.func58 Tryz.ntmps58 (all_cons ⟨sortI_ok, by kernel_rfl⟩ (all_cons ⟨compactI_ok, by kernel_rfl⟩ (all_cons ⟨rNorm_ok, by kernel_rfl⟩ (all_cons ⟨uF_ok, by kernel_rfl⟩ (all_cons ⟨concat_ok, by kernel_rfl⟩ (all_nil)))))) runU_eq
theorem runM_ok : runM_c.Ok Tryz.prog 58 :=
 pr Tryz.func58 Tryz.ntmps58 (all_cons ⟨sortI_ok, by kernel_rfl⟩ (all_cons ⟨compactI_ok, by kernel_rfl⟩ (all_cons ⟨rNorm_ok, by kernel_rfl⟩ (all_cons ⟨mF_ok, by kernel_rfl⟩ (all_cons ⟨concat_ok, by kernel_rfl⟩ (all_nil)))))) runM_eq
theorem runD_ok : runD_c.Ok Tryz.prog 58 :=
 pr Tryz.func58 Tryz.ntmps58 (all_cons ⟨sortI_ok, by kernel_rfl⟩ (all_cons ⟨compactI_ok, by kernel_rfl⟩ (all_cons ⟨rNorm_ok, by kernel_rfl⟩ (all_cons ⟨dF_ok, by kernel_rfl⟩ (all_cons ⟨concat_ok, by kernel_rfl⟩ (all_nil)))))) runD_eq
theorem rUnion_ok : rUnion_c.Ok Tryz.prog 34 :=
 pr Tryz.func34 Tryz.ntmps34 (all_cons ⟨runU_ok, by kernel_rfl⟩ (all_cons ⟨runM_ok, by kernel_rfl⟩ (all_cons ⟨runD_ok, by kernel_rfl⟩ (all_nil)))) rUnion_eq
theorem rMeet_ok : rMeet_c.Ok Tryz.prog 36 :=
 pr Tryz.func36 Tryz.ntmps36 (all_cons ⟨runU_ok, by kernel_rfl⟩ (all_cons ⟨runM_ok, by kernel_rfl⟩ (all_cons ⟨runD_ok, by kernel_rfl⟩ (all_nil)))) rMeet_eq
theorem rMinus_ok : rMinus_c.Ok Tryz.prog 38 :=
 pr Tryz.func38 Tryz.ntmps38 (all_cons ⟨runU_ok, by kernel_rfl⟩ (all_cons ⟨runM_ok, by kernel_rfl⟩ (all_cons ⟨runD_ok, by kernel_rfl⟩ (all_nil)))) rMinus_eq
theorem hasF_ok : hasF_c.Ok Tryz.prog 66 :=
 pr Tryz.func66 Tryz.ntmps66 (all_nil) hasF_eq
theorem indexFunc_ok : indexFunc_c.Ok Tryz.prog 83 :=
 pr Tryz.func83 Tryz.ntmps83 (all_cons ⟨hasF_ok, by kernel_rfl⟩ (all_nil)) indexFunc_eq
theorem containsFunc_ok : containsFunc_c.Ok Tryz.prog 65 :=
 pr Tryz.func65 Tryz.ntmps65 (all_cons ⟨indexFunc_ok, by kernel_rfl⟩ (all_nil)) containsFunc_eq
theorem rHas_ok : rHas_c.Ok Tryz.prog 42 :=
 pr Tryz.func42 Tryz.ntmps42 (all_cons ⟨containsFunc_ok, by kernel_rfl⟩ (all_nil)) rHas_eq
theorem utfValid_ok : utfValid_c.Ok Tryz.prog 82 :=
 pr Tryz.func82 Tryz.ntmps82 (all_nil) utfValid_eq
theorem utfLead_ok : utfLead_c.Ok Tryz.prog 125 :=
 pr Tryz.func125 Tryz.ntmps125 (all_nil) utfLead_eq
theorem utfOne_ok : utfOne_c.Ok Tryz.prog 106 :=
 pr Tryz.func106 Tryz.ntmps106 (all_cons ⟨utfLead_ok, by kernel_rfl⟩ (all_nil)) utfOne_eq
theorem utfNew_ok : utfNew_c.Ok Tryz.prog 79 :=
 pr Tryz.func79 Tryz.ntmps79 (all_nil) utfNew_eq
theorem utfWrite_ok : utfWrite_c.Ok Tryz.prog 80 :=
 pr Tryz.func80 Tryz.ntmps80 (all_cons ⟨utfOne_ok, by kernel_rfl⟩ (all_nil)) utfWrite_eq
theorem utfClose_ok : utfClose_c.Ok Tryz.prog 81 :=
 pr Tryz.func81 Tryz.ntmps81 (all_nil) utfClose_eq
theorem utfDecode_ok : utfDecode_c.Ok Tryz.prog 63 :=
 pr Tryz.func63 Tryz.ntmps63 (all_cons ⟨utfNew_ok, by kernel_rfl⟩ (all_cons ⟨utfWrite_ok, by kernel_rfl⟩ (all_cons ⟨utfClose_ok, by kernel_rfl⟩ (all_nil)))) utfDecode_eq
theorem utfEncode_ok : utfEncode_c.Ok Tryz.prog 64 :=
 pr Tryz.func64 Tryz.ntmps64 (all_cons ⟨utfValid_ok, by kernel_rfl⟩ (all_nil)) utfEncode_eq
theorem sRead_ok : sRead_c.Ok Tryz.prog 41 :=
 pr Tryz.func41 Tryz.ntmps41 (all_cons ⟨utfDecode_ok, by kernel_rfl⟩ (all_cons ⟨utfEncode_ok, by kernel_rfl⟩ (all_nil))) sRead_eq
theorem sOdd_ok : sOdd_c.Ok Tryz.prog 32 :=
 pr Tryz.func32 Tryz.ntmps32 (all_cons ⟨sortS_ok, by kernel_rfl⟩ (all_cons ⟨compactS_ok, by kernel_rfl⟩ (all_cons ⟨sRead_ok, by kernel_rfl⟩ (all_nil)))) sOdd_eq
theorem slEqualS_ok : slEqualS_c.Ok Tryz.prog 62 :=
 pr Tryz.func62 Tryz.ntmps62 (all_nil) slEqualS_eq
theorem sNorm_ok : sNorm_c.Ok Tryz.prog 9 :=
 pr Tryz.func9 Tryz.ntmps9 (all_cons ⟨rNorm_ok, by kernel_rfl⟩ (all_cons ⟨sOdd_ok, by kernel_rfl⟩ (all_nil))) sNorm_eq
theorem sSame_ok : sSame_c.Ok Tryz.prog 40 :=
 pr Tryz.func40 Tryz.ntmps40 (all_cons ⟨slEqual_ok, by kernel_rfl⟩ (all_cons ⟨slEqualS_ok, by kernel_rfl⟩ (all_nil))) sSame_eq
theorem sMay_ok : sMay_c.Ok Tryz.prog 14 :=
 pr Tryz.func14 Tryz.ntmps14 (all_cons ⟨sNorm_ok, by kernel_rfl⟩ (all_cons ⟨sSame_ok, by kernel_rfl⟩ (all_nil))) sMay_eq
theorem indexS_ok : indexS_c.Ok Tryz.prog 67 :=
 pr Tryz.func67 Tryz.ntmps67 (all_nil) indexS_eq
theorem containsS_ok : containsS_c.Ok Tryz.prog 43 :=
 pr Tryz.func43 Tryz.ntmps43 (all_cons ⟨indexS_ok, by kernel_rfl⟩ (all_nil)) containsS_eq
theorem sHas_ok : sHas_c.Ok Tryz.prog 15 :=
 pr Tryz.func15 Tryz.ntmps15 (all_cons ⟨rHas_ok, by kernel_rfl⟩ (all_cons ⟨sRead_ok, by kernel_rfl⟩ (all_cons ⟨containsS_ok, by kernel_rfl⟩ (all_nil)))) sHas_eq
theorem sOf_ok : sOf_c.Ok Tryz.prog 27 :=
 pr Tryz.func27 Tryz.ntmps27 (all_cons ⟨sRead_ok, by kernel_rfl⟩ (all_nil)) sOf_eq
theorem sFirst_ok : sFirst_c.Ok Tryz.prog 23 :=
 pr Tryz.func23 Tryz.ntmps23 (all_cons ⟨rNorm_ok, by kernel_rfl⟩ (all_nil)) sFirst_eq
theorem sOnes_ok : sOnes_c.Ok Tryz.prog 28 :=
 pr Tryz.func28 Tryz.ntmps28 (all_cons ⟨rNorm_ok, by kernel_rfl⟩ (all_nil)) sOnes_eq
theorem sAll_ok : sAll_c.Ok Tryz.prog 21 :=
 pr Tryz.func21 Tryz.ntmps21 (all_cons ⟨sFirst_ok, by kernel_rfl⟩ (all_nil)) sAll_eq
theorem growS_ok : growS_c.Ok Tryz.prog 75 :=
 pr Tryz.func75 Tryz.ntmps75 (all_nil) growS_eq
theorem concatS_ok : concatS_c.Ok Tryz.prog 56 :=
 pr Tryz.func56 Tryz.ntmps56 (all_cons ⟨growS_ok, by kernel_rfl⟩ (all_nil)) concatS_eq
theorem kU_ok : kU_c.Ok Tryz.prog 35 :=
 pr Tryz.func35 Tryz.ntmps35 (all_nil) kU_eq
theorem kM_ok : kM_c.Ok Tryz.prog 37 :=
 pr Tryz.func37 Tryz.ntmps37 (all_nil) kM_eq
theorem kD_ok : kD_c.Ok Tryz.prog 39 :=
 pr Tryz.func39 Tryz.ntmps39 (all_nil) kD_eq
theorem joinU_ok : joinU_c.Ok Tryz.prog 33 :=
 pr Tryz.func33 Tryz.ntmps33 (all_cons ⟨rUnion_ok, by kernel_rfl⟩ (all_cons ⟨rHas_ok, by kernel_rfl⟩ (all_cons ⟨sRead_ok, by kernel_rfl⟩ (all_cons ⟨sOdd_ok, by kernel_rfl⟩ (all_cons ⟨sNorm_ok, by kernel_rfl⟩ (all_cons ⟨sHas_ok, by kernel_rfl⟩ (all_cons ⟨concatS_ok, by kernel_rfl⟩ (all_cons ⟨kU_ok, by kernel_rfl⟩ (all_nil))))))))) joinU_eq
theorem joinM_ok : joinM_c.Ok Tryz.prog 33 :=
 pr Tryz.func33 Tryz.ntmps33 (all_cons ⟨rMeet_ok, by kernel_rfl⟩ (all_cons ⟨rHas_ok, by kernel_rfl⟩ (all_cons ⟨sRead_ok, by kernel_rfl⟩ (all_cons ⟨sOdd_ok, by kernel_rfl⟩ (all_cons ⟨sNorm_ok, by kernel_rfl⟩ (all_cons ⟨sHas_ok, by kernel_rfl⟩ (all_cons ⟨concatS_ok, by kernel_rfl⟩ (all_cons ⟨kM_ok, by kernel_rfl⟩ (all_nil))))))))) joinM_eq
theorem joinD_ok : joinD_c.Ok Tryz.prog 33 :=
 pr Tryz.func33 Tryz.ntmps33 (all_cons ⟨rMinus_ok, by kernel_rfl⟩ (all_cons ⟨rHas_ok, by kernel_rfl⟩ (all_cons ⟨sRead_ok, by kernel_rfl⟩ (all_cons ⟨sOdd_ok, by kernel_rfl⟩ (all_cons ⟨sNorm_ok, by kernel_rfl⟩ (all_cons ⟨sHas_ok, by kernel_rfl⟩ (all_cons ⟨concatS_ok, by kernel_rfl⟩ (all_cons ⟨kD_ok, by kernel_rfl⟩ (all_nil))))))))) joinD_eq
theorem sUnion_ok : sUnion_c.Ok Tryz.prog 10 :=
 pr Tryz.func10 Tryz.ntmps10 (all_cons ⟨joinU_ok, by kernel_rfl⟩ (all_cons ⟨joinM_ok, by kernel_rfl⟩ (all_cons ⟨joinD_ok, by kernel_rfl⟩ (all_nil)))) sUnion_eq
theorem sMeet_ok : sMeet_c.Ok Tryz.prog 11 :=
 pr Tryz.func11 Tryz.ntmps11 (all_cons ⟨joinU_ok, by kernel_rfl⟩ (all_cons ⟨joinM_ok, by kernel_rfl⟩ (all_cons ⟨joinD_ok, by kernel_rfl⟩ (all_nil)))) sMeet_eq
theorem sMinus_ok : sMinus_c.Ok Tryz.prog 12 :=
 pr Tryz.func12 Tryz.ntmps12 (all_cons ⟨joinU_ok, by kernel_rfl⟩ (all_cons ⟨joinM_ok, by kernel_rfl⟩ (all_cons ⟨joinD_ok, by kernel_rfl⟩ (all_nil)))) sMinus_eq
theorem sNot_ok : sNot_c.Ok Tryz.prog 13 :=
 pr Tryz.func13 Tryz.ntmps13 (all_cons ⟨sAll_ok, by kernel_rfl⟩ (all_cons ⟨sMinus_ok, by kernel_rfl⟩ (all_nil))) sNot_eq
theorem sEqual_ok : sEqual_c.Ok Tryz.prog 19 :=
 pr Tryz.func19 Tryz.ntmps19 (all_cons ⟨sNorm_ok, by kernel_rfl⟩ (all_cons ⟨sSame_ok, by kernel_rfl⟩ (all_nil))) sEqual_eq
theorem sEmpty_ok : sEmpty_c.Ok Tryz.prog 20 :=
 pr Tryz.func20 Tryz.ntmps20 (all_cons ⟨sEqual_ok, by kernel_rfl⟩ (all_nil)) sEmpty_eq
theorem row1_ok : row1_c.Ok Tryz.prog 84 :=
 pr Tryz.func84 Tryz.ntmps84 (all_nil) row1_eq
theorem at1_ok : at1_c.Ok Tryz.prog 69 :=
 pr Tryz.func69 Tryz.ntmps69 (all_cons ⟨row1_ok, by kernel_rfl⟩ (all_nil)) at1_eq
theorem decode1_ok : decode1_c.Ok Tryz.prog 49 :=
 pr Tryz.func49 Tryz.ntmps49 (all_cons ⟨at1_ok, by kernel_rfl⟩ (all_nil)) decode1_eq
theorem runes1_ok : runes1_c.Ok Tryz.prog 29 :=
 pr Tryz.func29 Tryz.ntmps29 (all_cons ⟨decode1_ok, by kernel_rfl⟩ (all_nil)) runes1_eq
theorem valid1_ok : valid1_c.Ok Tryz.prog 70 :=
 pr Tryz.func70 Tryz.ntmps70 (all_nil) valid1_eq
theorem put1_ok : put1_c.Ok Tryz.prog 50 :=
 pr Tryz.func50 Tryz.ntmps50 (all_cons ⟨valid1_ok, by kernel_rfl⟩ (all_nil)) put1_eq
theorem encode1_ok : encode1_c.Ok Tryz.prog 30 :=
 pr Tryz.func30 Tryz.ntmps30 (all_cons ⟨put1_ok, by kernel_rfl⟩ (all_nil)) encode1_eq
theorem good6_ok : good6_c.Ok Tryz.prog 16 :=
 pr Tryz.func16 Tryz.ntmps16 (all_cons ⟨runes1_ok, by kernel_rfl⟩ (all_cons ⟨encode1_ok, by kernel_rfl⟩ (all_nil))) good6_eq
theorem sameTexts_ok : sameTexts_c.Ok Tryz.prog 45 :=
 pr Tryz.func45 Tryz.ntmps45 (all_nil) sameTexts_eq
theorem same6_ok : same6_c.Ok Tryz.prog 18 :=
 pr Tryz.func18 Tryz.ntmps18 (all_cons ⟨refSame_ok, by kernel_rfl⟩ (all_cons ⟨sameTexts_ok, by kernel_rfl⟩ (all_nil))) same6_eq
theorem put6_ok : put6_c.Ok Tryz.prog 68 :=
 pr Tryz.func68 Tryz.ntmps68 (all_nil) put6_eq
theorem odd6_ok : odd6_c.Ok Tryz.prog 48 :=
 pr Tryz.func48 Tryz.ntmps48 (all_cons ⟨runes1_ok, by kernel_rfl⟩ (all_cons ⟨good6_ok, by kernel_rfl⟩ (all_cons ⟨put6_ok, by kernel_rfl⟩ (all_nil)))) odd6_eq
theorem norm6_ok : norm6_c.Ok Tryz.prog 26 :=
 pr Tryz.func26 Tryz.ntmps26 (all_cons ⟨refNorm_ok, by kernel_rfl⟩ (all_cons ⟨odd6_ok, by kernel_rfl⟩ (all_nil))) norm6_eq
theorem copy6_ok : copy6_c.Ok Tryz.prog 22 :=
 pr Tryz.func22 Tryz.ntmps22 (all_nil) copy6_eq
theorem fixed_ok : fixed_c.Ok Tryz.prog 8 :=
 pr Tryz.func8 Tryz.ntmps8 (all_cons ⟨sNorm_ok, by kernel_rfl⟩ (all_cons ⟨sMay_ok, by kernel_rfl⟩ (all_cons ⟨sHas_ok, by kernel_rfl⟩ (all_cons ⟨sOf_ok, by kernel_rfl⟩ (all_cons ⟨sFirst_ok, by kernel_rfl⟩ (all_cons ⟨sOnes_ok, by kernel_rfl⟩ (all_cons ⟨sAll_ok, by kernel_rfl⟩ (all_cons ⟨sUnion_ok, by kernel_rfl⟩ (all_cons ⟨sMeet_ok, by kernel_rfl⟩ (all_cons ⟨sMinus_ok, by kernel_rfl⟩ (all_cons ⟨sNot_ok, by kernel_rfl⟩ (all_cons ⟨sEqual_ok, by kernel_rfl⟩ (all_cons ⟨sEmpty_ok, by kernel_rfl⟩ (all_nil)))))))))))))) fixed_eq
theorem lKeeps_ok : lKeeps_c.Ok Tryz.prog 5 :=
 pr Tryz.func5 Tryz.ntmps5 (all_cons ⟨refSame_ok, by kernel_rfl⟩ (all_cons ⟨refNorm_ok, by kernel_rfl⟩ (all_cons ⟨sNorm_ok, by kernel_rfl⟩ (all_cons ⟨sFirst_ok, by kernel_rfl⟩ (all_cons ⟨sUnion_ok, by kernel_rfl⟩ (all_cons ⟨sNot_ok, by kernel_rfl⟩ (all_cons ⟨same6_ok, by kernel_rfl⟩ (all_cons ⟨norm6_ok, by kernel_rfl⟩ (all_cons ⟨copy6_ok, by kernel_rfl⟩ (all_cons ⟨fixed_ok, by kernel_rfl⟩ (all_nil))))))))))) lKeeps_eq
end
end Go.Vu.Sg
