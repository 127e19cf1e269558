/- Each function of the program keeps what its values' function promises. -/
import Derived.Test.YtfmhkcidechgdaaGreatVtPk1
import Derived.Test.YtfmhkcidechgdaaGreatVtTab
import Derived.Test.YtfmhkcidechgdaaGreatProg
set_option linter.unusedVariables false
set_option maxRecDepth 100000
namespace Go.Vt.Pk
noncomputable section
open Go Go.Vt Go.Proofs
theorem tblOk : TabOk Tryz.prog tbl := tabB_ok (by kernel_rfl)
theorem mixed : Tryz.prog.follows .mixedOrders = true := by kernel_rfl
theorem pr {g : List (Nat × Ctr)} {H : Nat → Option LH} {f : Nat} {fn : Func} {c : Ctr} {is : List Nat} {cells : List (Nat × Nat)} {n : Nat} (hf : Tryz.prog.funcs[f]? = some fn) (hn : fn.ntmps = n)
    (hg : ∀ p ∈ g, p.2.Ok Tryz.prog p.1 ∧ enters Tryz.prog p.1 = true) (he : ∀ v, semF tbl (gam g) H fuelN n (bodyOf fn) c.ps c.rs is cells v = c.g v)
    (hb : fn.body.isSome = true := by kernel_rfl) (hres : fn.results = (is.map (resVar n cells)).toArray := by kernel_rfl) (hps : modesOk c (bodyOf fn) cells n = true := by kernel_rfl) : c.Ok Tryz.prog f :=
  printed tblOk mixed hf hb hn hres hps hg he
theorem isNaN_ok : isNaN_c.Ok Tryz.prog 140 :=
  pr Tryz.func140 Tryz.ntmps140 all_nil isNaN_eq
theorem cmpCompare_ok : cmpCompare_c.Ok Tryz.prog 123 :=
  pr Tryz.func123 Tryz.ntmps123 (all_cons ⟨isNaN_ok, by kernel_rfl⟩ all_nil) cmpCompare_eq
theorem normLess_ok : normLess_c.Ok Tryz.prog 122 :=
  pr Tryz.func122 Tryz.ntmps122 (all_cons ⟨cmpCompare_ok, by kernel_rfl⟩ all_nil) normLess_eq
theorem normLess_is (p q : Int × Int) : normLess p q = c_cmp p q := by
  simp only [normLess, cmpCompare, isNaN, c_cmp, cmpv, Option.bind_some, bne_self_eq_false, cond_false]
  by_cases h1 : p.1 < q.1
  · simp [h1]
  · by_cases h2 : p.1 > q.1 <;> simp [h1, h2]
theorem c_cmp_ok : c_cmp_c.Ok Tryz.prog 122 := fun v r h => normLess_ok v r ((normLess_is v.1 v.2.1).trans h)
theorem isNaNS_ok : isNaNS_c.Ok Tryz.prog 179 :=
  pr Tryz.func179 Tryz.ntmps179 all_nil isNaNS_eq
theorem cmpLessS_ok : cmpLessS_c.Ok Tryz.prog 168 :=
  pr Tryz.func168 Tryz.ntmps168 (all_cons ⟨isNaNS_ok, by kernel_rfl⟩ all_nil) cmpLessS_eq
theorem cmpLessS_is (x y : List UInt8) : cmpLessS x y = s_less x y := by simp [cmpLessS, isNaNS, s_less]
theorem s_less_ok : s_less_c.Ok Tryz.prog 168 := fun v r h => cmpLessS_ok v r ((cmpLessS_is v.1 v.2.1).trans h)
theorem compactS_ok : compactS_c.Ok Tryz.prog 125 :=
  pr Tryz.func125 Tryz.ntmps125 all_nil compactS_eq
theorem i_len64_ok : i_len64_c.Ok Tryz.prog 161 :=
  pr Tryz.func161 Tryz.ntmps161 all_nil i_len64_eq
theorem i_bitsLen_ok : i_bitsLen_c.Ok Tryz.prog 139 :=
  pr Tryz.func139 Tryz.ntmps139 (all_cons ⟨i_len64_ok, by kernel_rfl⟩ all_nil) i_bitsLen_eq
theorem i_nextPow_ok : i_nextPow_c.Ok Tryz.prog 172 :=
  pr Tryz.func172 Tryz.ntmps172 (all_cons ⟨i_bitsLen_ok, by kernel_rfl⟩ all_nil) i_nextPow_eq
theorem i_xorNext_ok : i_xorNext_c.Ok Tryz.prog 173 :=
  pr Tryz.func173 Tryz.ntmps173 all_nil i_xorNext_eq
theorem s_insSort_ok : s_insSort_c.Ok Tryz.prog 162 :=
  pr Tryz.func162 Tryz.ntmps162 (all_cons ⟨s_less_ok, by kernel_rfl⟩ all_nil) s_insSort_eq
theorem s_siftDown_ok : s_siftDown_c.Ok Tryz.prog 176 :=
  pr Tryz.func176 Tryz.ntmps176 (all_cons ⟨s_less_ok, by kernel_rfl⟩ all_nil) s_siftDown_eq
theorem s_heapSort_ok : s_heapSort_c.Ok Tryz.prog 163 :=
  pr Tryz.func163 Tryz.ntmps163 (all_cons ⟨s_siftDown_ok, by kernel_rfl⟩ all_nil) s_heapSort_eq
theorem s_breakPat_ok : s_breakPat_c.Ok Tryz.prog 164 :=
  pr Tryz.func164 Tryz.ntmps164 (all_cons ⟨i_nextPow_ok, by kernel_rfl⟩ (all_cons ⟨i_xorNext_ok, by kernel_rfl⟩ all_nil)) s_breakPat_eq
theorem s_order2_ok : s_order2_c.Ok Tryz.prog 181 :=
  pr Tryz.func181 Tryz.ntmps181 (all_cons ⟨s_less_ok, by kernel_rfl⟩ all_nil) s_order2_eq
theorem s_median_ok : s_median_c.Ok Tryz.prog 178 :=
  pr Tryz.func178 Tryz.ntmps178 (all_cons ⟨s_order2_ok, by kernel_rfl⟩ all_nil) s_median_eq
theorem s_medianAdj_ok : s_medianAdj_c.Ok Tryz.prog 177 :=
  pr Tryz.func177 Tryz.ntmps177 (all_cons ⟨s_median_ok, by kernel_rfl⟩ all_nil) s_medianAdj_eq
theorem s_choosePiv_ok : s_choosePiv_c.Ok Tryz.prog 165 :=
  pr Tryz.func165 Tryz.ntmps165 (all_cons ⟨s_median_ok, by kernel_rfl⟩ (all_cons ⟨s_medianAdj_ok, by kernel_rfl⟩ all_nil)) s_choosePiv_eq
theorem s_revRange_ok : s_revRange_c.Ok Tryz.prog 166 :=
  pr Tryz.func166 Tryz.ntmps166 all_nil s_revRange_eq
theorem s_partIns_ok : s_partIns_c.Ok Tryz.prog 167 :=
  pr Tryz.func167 Tryz.ntmps167 (all_cons ⟨s_less_ok, by kernel_rfl⟩ all_nil) s_partIns_eq
theorem s_partEq_ok : s_partEq_c.Ok Tryz.prog 169 :=
  pr Tryz.func169 Tryz.ntmps169 (all_cons ⟨s_less_ok, by kernel_rfl⟩ all_nil) s_partEq_eq
theorem s_partition_ok : s_partition_c.Ok Tryz.prog 170 :=
  pr Tryz.func170 Tryz.ntmps170 (all_cons ⟨s_less_ok, by kernel_rfl⟩ all_nil) s_partition_eq
theorem s_pdq0_ok (s_pdqR : List (List UInt8) → Int → Int → Int → Option (List (List UInt8) × Unit)) (hs_pdqR : (s_pdqR_cR s_pdqR).Ok Tryz.prog 141) : (s_pdq0_c s_pdqR).Ok Tryz.prog 141 :=
  pr Tryz.func141 Tryz.ntmps141 (all_cons ⟨s_less_ok, by kernel_rfl⟩ (all_cons ⟨s_insSort_ok, by kernel_rfl⟩ (all_cons ⟨s_heapSort_ok, by kernel_rfl⟩ (all_cons ⟨s_breakPat_ok, by kernel_rfl⟩ (all_cons ⟨s_choosePiv_ok, by kernel_rfl⟩ (all_cons ⟨s_revRange_ok, by kernel_rfl⟩ (all_cons ⟨s_partIns_ok, by kernel_rfl⟩ (all_cons ⟨s_partEq_ok, by kernel_rfl⟩ (all_cons ⟨s_partition_ok, by kernel_rfl⟩ (all_cons ⟨hs_pdqR, by kernel_rfl⟩ all_nil)))))))))) (s_pdq0_eq s_pdqR)
theorem s_pdqR_ok : ∀ N, (s_pdqR_cR (Srt.pdqN s_less N)).Ok Tryz.prog 141
  | 0 => fun v r h => by cases h
  | N + 1 => s_pdq0_ok (Srt.pdqN s_less N) (s_pdqR_ok N)
theorem s_sortG_ok (s_pdqR : List (List UInt8) → Int → Int → Int → Option (List (List UInt8) × Unit)) (hs_pdqR : (s_pdqR_cR s_pdqR).Ok Tryz.prog 141) : (s_sortG_c s_pdqR).Ok Tryz.prog 124 :=
  pr Tryz.func124 Tryz.ntmps124 (all_cons ⟨i_bitsLen_ok, by kernel_rfl⟩ (all_cons ⟨hs_pdqR, by kernel_rfl⟩ all_nil)) (s_sortG_eq s_pdqR)
theorem sortS_ok : sortS_c.Ok Tryz.prog 124 := ok_of fun v r h => ⟨_, s_sortG_ok (Srt.pdqN s_less (List.length v.1 + 1)) (s_pdqR_ok _), h⟩
theorem c_insSort_ok : c_insSort_c.Ok Tryz.prog 152 :=
  pr Tryz.func152 Tryz.ntmps152 (all_cons ⟨c_cmp_ok, by kernel_rfl⟩ all_nil) c_insSort_eq
theorem c_siftDown_ok : c_siftDown_c.Ok Tryz.prog 171 :=
  pr Tryz.func171 Tryz.ntmps171 (all_cons ⟨c_cmp_ok, by kernel_rfl⟩ all_nil) c_siftDown_eq
theorem c_heapSort_ok : c_heapSort_c.Ok Tryz.prog 153 :=
  pr Tryz.func153 Tryz.ntmps153 (all_cons ⟨c_siftDown_ok, by kernel_rfl⟩ all_nil) c_heapSort_eq
theorem c_breakPat_ok : c_breakPat_c.Ok Tryz.prog 154 :=
  pr Tryz.func154 Tryz.ntmps154 (all_cons ⟨i_nextPow_ok, by kernel_rfl⟩ (all_cons ⟨i_xorNext_ok, by kernel_rfl⟩ all_nil)) c_breakPat_eq
theorem c_order2_ok : c_order2_c.Ok Tryz.prog 180 :=
  pr Tryz.func180 Tryz.ntmps180 (all_cons ⟨c_cmp_ok, by kernel_rfl⟩ all_nil) c_order2_eq
theorem c_median_ok : c_median_c.Ok Tryz.prog 175 :=
  pr Tryz.func175 Tryz.ntmps175 (all_cons ⟨c_order2_ok, by kernel_rfl⟩ all_nil) c_median_eq
theorem c_medianAdj_ok : c_medianAdj_c.Ok Tryz.prog 174 :=
  pr Tryz.func174 Tryz.ntmps174 (all_cons ⟨c_median_ok, by kernel_rfl⟩ all_nil) c_medianAdj_eq
theorem c_choosePiv_ok : c_choosePiv_c.Ok Tryz.prog 155 :=
  pr Tryz.func155 Tryz.ntmps155 (all_cons ⟨c_median_ok, by kernel_rfl⟩ (all_cons ⟨c_medianAdj_ok, by kernel_rfl⟩ all_nil)) c_choosePiv_eq
theorem c_revRange_ok : c_revRange_c.Ok Tryz.prog 156 :=
  pr Tryz.func156 Tryz.ntmps156 all_nil c_revRange_eq
theorem c_partIns_ok : c_partIns_c.Ok Tryz.prog 157 :=
  pr Tryz.func157 Tryz.ntmps157 (all_cons ⟨c_cmp_ok, by kernel_rfl⟩ all_nil) c_partIns_eq
theorem c_partEq_ok : c_partEq_c.Ok Tryz.prog 158 :=
  pr Tryz.func158 Tryz.ntmps158 (all_cons ⟨c_cmp_ok, by kernel_rfl⟩ all_nil) c_partEq_eq
theorem c_partition_ok : c_partition_c.Ok Tryz.prog 159 :=
  pr Tryz.func159 Tryz.ntmps159 (all_cons ⟨c_cmp_ok, by kernel_rfl⟩ all_nil) c_partition_eq
theorem c_pdq0_ok (c_pdqR : List (Int × Int) → Int → Int → Int → Option (List (Int × Int) × Unit)) (hc_pdqR : (c_pdqR_cR c_pdqR).Ok Tryz.prog 138) : (c_pdq0_c c_pdqR).Ok Tryz.prog 138 :=
  pr Tryz.func138 Tryz.ntmps138 (all_cons ⟨c_cmp_ok, by kernel_rfl⟩ (all_cons ⟨c_insSort_ok, by kernel_rfl⟩ (all_cons ⟨c_heapSort_ok, by kernel_rfl⟩ (all_cons ⟨c_breakPat_ok, by kernel_rfl⟩ (all_cons ⟨c_choosePiv_ok, by kernel_rfl⟩ (all_cons ⟨c_revRange_ok, by kernel_rfl⟩ (all_cons ⟨c_partIns_ok, by kernel_rfl⟩ (all_cons ⟨c_partEq_ok, by kernel_rfl⟩ (all_cons ⟨c_partition_ok, by kernel_rfl⟩ (all_cons ⟨hc_pdqR, by kernel_rfl⟩ all_nil)))))))))) (c_pdq0_eq c_pdqR)
theorem c_pdqR_ok : ∀ N, (c_pdqR_cR (Srt.pdqN c_less N)).Ok Tryz.prog 138
  | 0 => fun v r h => by cases h
  | N + 1 => c_pdq0_ok (Srt.pdqN c_less N) (c_pdqR_ok N)
theorem c_sortG_ok (c_pdqR : List (Int × Int) → Int → Int → Int → Option (List (Int × Int) × Unit)) (hc_pdqR : (c_pdqR_cR c_pdqR).Ok Tryz.prog 138) : (c_sortG_c c_pdqR).Ok Tryz.prog 121 :=
  pr Tryz.func121 Tryz.ntmps121 (all_cons ⟨i_bitsLen_ok, by kernel_rfl⟩ (all_cons ⟨hc_pdqR, by kernel_rfl⟩ all_nil)) (c_sortG_eq c_pdqR)
theorem sortF_ok : sortF_c.Ok Tryz.prog 121 := ok_of fun v r h => ⟨_, c_sortG_ok (Srt.pdqN c_less (List.length v.1 + 1)) (c_pdqR_ok _), h⟩
theorem refSame_ok : refSame_c.Ok Tryz.prog 54 :=
  pr Tryz.func54 Tryz.ntmps54 all_nil refSame_eq
theorem refClipped_ok : refClipped_c.Ok Tryz.prog 76 :=
  pr Tryz.func76 Tryz.ntmps76 all_nil refClipped_eq
theorem refSorted0_ok (refSorted : List (Int × Int) → Option (Unit × (List (Int × Int) × Unit))) (hrefSorted : (refSorted_cR refSorted).Ok Tryz.prog 75) : (refSorted0_c refSorted).Ok Tryz.prog 75 :=
  pr Tryz.func75 Tryz.ntmps75 (all_cons ⟨hrefSorted, by kernel_rfl⟩ all_nil) (refSorted0_eq refSorted)
theorem refSortedR_ok : ∀ N, (refSorted_cR (refSortedN N)).Ok Tryz.prog 75
  | 0 => fun v r h => by cases h
  | N + 1 => refSorted0_ok (refSortedN N) (refSortedR_ok N)
theorem refSorted_ok : refSorted_c.Ok Tryz.prog 75 := fun v r h => refSortedR_ok (v.1.length + 1) v r h
theorem refNorm_ok : refNorm_c.Ok Tryz.prog 56 :=
  pr Tryz.func56 Tryz.ntmps56 (all_cons ⟨refSorted_ok, by kernel_rfl⟩ (all_cons ⟨refClipped_ok, by kernel_rfl⟩ all_nil)) refNorm_eq
theorem rNorm_ok : rNorm_c.Ok Tryz.prog 101 :=
  pr Tryz.func101 Tryz.ntmps101 (all_cons ⟨sortF_ok, by kernel_rfl⟩ all_nil) rNorm_eq
theorem slEqual_ok : slEqual_c.Ok Tryz.prog 99 :=
  pr Tryz.func99 Tryz.ntmps99 all_nil slEqual_eq
theorem hasF_ok : hasF_c.Ok Tryz.prog 91 :=
  pr Tryz.func91 Tryz.ntmps91 all_nil hasF_eq
theorem indexFunc_ok : indexFunc_c.Ok Tryz.prog 107 :=
  pr Tryz.func107 Tryz.ntmps107 (all_cons ⟨hasF_ok, by kernel_rfl⟩ all_nil) indexFunc_eq
theorem containsFunc_ok : containsFunc_c.Ok Tryz.prog 90 :=
  pr Tryz.func90 Tryz.ntmps90 (all_cons ⟨indexFunc_ok, by kernel_rfl⟩ all_nil) containsFunc_eq
theorem rHas_ok : rHas_c.Ok Tryz.prog 73 :=
  pr Tryz.func73 Tryz.ntmps73 (all_cons ⟨containsFunc_ok, by kernel_rfl⟩ all_nil) rHas_eq
theorem refHas_ok : refHas_c.Ok Tryz.prog 80 :=
  pr Tryz.func80 Tryz.ntmps80 all_nil refHas_eq
theorem utfValid_ok : utfValid_c.Ok Tryz.prog 106 :=
  pr Tryz.func106 Tryz.ntmps106 all_nil utfValid_eq
theorem utfLead_ok : utfLead_c.Ok Tryz.prog 142 :=
  pr Tryz.func142 Tryz.ntmps142 all_nil utfLead_eq
theorem utfOne_ok : utfOne_c.Ok Tryz.prog 126 :=
  pr Tryz.func126 Tryz.ntmps126 (all_cons ⟨utfLead_ok, by kernel_rfl⟩ all_nil) utfOne_eq
theorem utfNew_ok : utfNew_c.Ok Tryz.prog 103 :=
  pr Tryz.func103 Tryz.ntmps103 all_nil utfNew_eq
theorem utfWrite_ok : utfWrite_c.Ok Tryz.prog 104 :=
  pr Tryz.func104 Tryz.ntmps104 (all_cons ⟨utfOne_ok, by kernel_rfl⟩ all_nil) utfWrite_eq
theorem utfClose_ok : utfClose_c.Ok Tryz.prog 105 :=
  pr Tryz.func105 Tryz.ntmps105 all_nil utfClose_eq
theorem utfDecode_ok : utfDecode_c.Ok Tryz.prog 88 :=
  pr Tryz.func88 Tryz.ntmps88 (all_cons ⟨utfNew_ok, by kernel_rfl⟩ (all_cons ⟨utfWrite_ok, by kernel_rfl⟩ (all_cons ⟨utfClose_ok, by kernel_rfl⟩ all_nil))) utfDecode_eq
theorem utfEncode_ok : utfEncode_c.Ok Tryz.prog 89 :=
  pr Tryz.func89 Tryz.ntmps89 (all_cons ⟨utfValid_ok, by kernel_rfl⟩ all_nil) utfEncode_eq
theorem sRead_ok : sRead_c.Ok Tryz.prog 72 :=
  pr Tryz.func72 Tryz.ntmps72 (all_cons ⟨utfDecode_ok, by kernel_rfl⟩ (all_cons ⟨utfEncode_ok, by kernel_rfl⟩ all_nil)) sRead_eq
theorem sOdd_ok : sOdd_c.Ok Tryz.prog 102 :=
  pr Tryz.func102 Tryz.ntmps102 (all_cons ⟨sortS_ok, by kernel_rfl⟩ (all_cons ⟨sortS_ok, by kernel_rfl⟩ (all_cons ⟨compactS_ok, by kernel_rfl⟩ (all_cons ⟨sRead_ok, by kernel_rfl⟩ all_nil)))) sOdd_eq
theorem slEqualS_ok : slEqualS_c.Ok Tryz.prog 100 :=
  pr Tryz.func100 Tryz.ntmps100 all_nil slEqualS_eq
theorem sNorm_ok : sNorm_c.Ok Tryz.prog 86 :=
  pr Tryz.func86 Tryz.ntmps86 (all_cons ⟨rNorm_ok, by kernel_rfl⟩ (all_cons ⟨sOdd_ok, by kernel_rfl⟩ all_nil)) sNorm_eq
theorem sSame_ok : sSame_c.Ok Tryz.prog 85 :=
  pr Tryz.func85 Tryz.ntmps85 (all_cons ⟨slEqual_ok, by kernel_rfl⟩ (all_cons ⟨slEqualS_ok, by kernel_rfl⟩ all_nil)) sSame_eq
theorem sMay_ok : sMay_c.Ok Tryz.prog 69 :=
  pr Tryz.func69 Tryz.ntmps69 (all_cons ⟨sNorm_ok, by kernel_rfl⟩ (all_cons ⟨sSame_ok, by kernel_rfl⟩ all_nil)) sMay_eq
theorem indexS_ok : indexS_c.Ok Tryz.prog 92 :=
  pr Tryz.func92 Tryz.ntmps92 all_nil indexS_eq
theorem containsS_ok : containsS_c.Ok Tryz.prog 74 :=
  pr Tryz.func74 Tryz.ntmps74 (all_cons ⟨indexS_ok, by kernel_rfl⟩ all_nil) containsS_eq
theorem sHas_ok : sHas_c.Ok Tryz.prog 53 :=
  pr Tryz.func53 Tryz.ntmps53 (all_cons ⟨rHas_ok, by kernel_rfl⟩ (all_cons ⟨sRead_ok, by kernel_rfl⟩ (all_cons ⟨containsS_ok, by kernel_rfl⟩ all_nil))) sHas_eq
theorem row1_ok : row1_c.Ok Tryz.prog 112 :=
  pr Tryz.func112 Tryz.ntmps112 all_nil row1_eq
theorem at1_ok : at1_c.Ok Tryz.prog 96 :=
  pr Tryz.func96 Tryz.ntmps96 (all_cons ⟨row1_ok, by kernel_rfl⟩ all_nil) at1_eq
theorem decode1_ok : decode1_c.Ok Tryz.prog 83 :=
  pr Tryz.func83 Tryz.ntmps83 (all_cons ⟨at1_ok, by kernel_rfl⟩ all_nil) decode1_eq
theorem runes1_ok : runes1_c.Ok Tryz.prog 78 :=
  pr Tryz.func78 Tryz.ntmps78 (all_cons ⟨decode1_ok, by kernel_rfl⟩ all_nil) runes1_eq
theorem valid1_ok : valid1_c.Ok Tryz.prog 127 :=
  pr Tryz.func127 Tryz.ntmps127 all_nil valid1_eq
theorem put1_ok : put1_c.Ok Tryz.prog 108 :=
  pr Tryz.func108 Tryz.ntmps108 (all_cons ⟨valid1_ok, by kernel_rfl⟩ all_nil) put1_eq
theorem encode1_ok : encode1_c.Ok Tryz.prog 93 :=
  pr Tryz.func93 Tryz.ntmps93 (all_cons ⟨put1_ok, by kernel_rfl⟩ all_nil) encode1_eq
theorem good6_ok : good6_c.Ok Tryz.prog 77 :=
  pr Tryz.func77 Tryz.ntmps77 (all_cons ⟨runes1_ok, by kernel_rfl⟩ (all_cons ⟨encode1_ok, by kernel_rfl⟩ all_nil)) good6_eq
theorem sameTexts_ok : sameTexts_c.Ok Tryz.prog 55 :=
  pr Tryz.func55 Tryz.ntmps55 all_nil sameTexts_eq
theorem has6_ok : has6_c.Ok Tryz.prog 59 :=
  pr Tryz.func59 Tryz.ntmps59 (all_cons ⟨refHas_ok, by kernel_rfl⟩ (all_cons ⟨runes1_ok, by kernel_rfl⟩ all_nil)) has6_eq
theorem same6_ok : same6_c.Ok Tryz.prog 25 :=
  pr Tryz.func25 Tryz.ntmps25 (all_cons ⟨refSame_ok, by kernel_rfl⟩ (all_cons ⟨sameTexts_ok, by kernel_rfl⟩ all_nil)) same6_eq
theorem put6_ok : put6_c.Ok Tryz.prog 79 :=
  pr Tryz.func79 Tryz.ntmps79 all_nil put6_eq
theorem odd6_ok : odd6_c.Ok Tryz.prog 57 :=
  pr Tryz.func57 Tryz.ntmps57 (all_cons ⟨runes1_ok, by kernel_rfl⟩ (all_cons ⟨good6_ok, by kernel_rfl⟩ (all_cons ⟨put6_ok, by kernel_rfl⟩ all_nil))) odd6_eq
theorem norm6_ok : norm6_c.Ok Tryz.prog 26 :=
  pr Tryz.func26 Tryz.ntmps26 (all_cons ⟨refNorm_ok, by kernel_rfl⟩ (all_cons ⟨odd6_ok, by kernel_rfl⟩ all_nil)) norm6_eq
theorem spNew_ok : spNew_c.Ok Tryz.prog 46 :=
  pr Tryz.func46 Tryz.ntmps46 all_nil spNew_eq
theorem spHas_ok : spHas_c.Ok Tryz.prog 87 :=
  pr Tryz.func87 Tryz.ntmps87 all_nil spHas_eq
theorem spAdd_ok : spAdd_c.Ok Tryz.prog 70 :=
  pr Tryz.func70 Tryz.ntmps70 (all_cons ⟨spHas_ok, by kernel_rfl⟩ all_nil) spAdd_eq
theorem spLen_ok : spLen_c.Ok Tryz.prog 51 :=
  pr Tryz.func51 Tryz.ntmps51 all_nil spLen_eq
theorem spClear_ok : spClear_c.Ok Tryz.prog 47 :=
  pr Tryz.func47 Tryz.ntmps47 all_nil spClear_eq
theorem cloneI0_ok : cloneI0_c.Ok Tryz.prog 71 :=
  pr Tryz.func71 Tryz.ntmps71 all_nil cloneI0_eq
theorem cloneI_ok : cloneI_c.Ok Tryz.prog 71 := sln_ok cloneI0_ok fun xs b r hb h => by
  simp only [cloneI] at h
  split at h
  · rename_i hl
    cases h
    cases b with
    | true => simp [cloneI0, hb rfl]; rfl
    | false =>
      have hr : roomOk (([] : List Int).length + xs.length) 8 = true := by simp [roomOk]; omega
      simp only [cloneI0, cond_false, Option.bind_some, hr, cond_true, List.nil_append]; rfl
  · cases h
theorem spVals_ok : spVals_c.Ok Tryz.prog 52 :=
  pr Tryz.func52 Tryz.ntmps52 (all_cons ⟨cloneI_ok, by kernel_rfl⟩ all_nil) spVals_eq
theorem pMayIn_ok : pMayIn_c.Ok Tryz.prog 68 :=
  pr Tryz.func68 Tryz.ntmps68 all_nil pMayIn_eq
theorem pMay1_ok : pMay1_c.Ok Tryz.prog 45 :=
  pr Tryz.func45 Tryz.ntmps45 (all_cons ⟨sMay_ok, by kernel_rfl⟩ (all_cons ⟨pMayIn_ok, by kernel_rfl⟩ all_nil)) pMay1_eq
theorem pMayF_ok : pMayF_c.Ok Tryz.prog 44 :=
  pr Tryz.func44 Tryz.ntmps44 (all_cons ⟨pMay1_ok, by kernel_rfl⟩ all_nil) pMayF_eq
theorem indexFuncP_ok : indexFuncP_c.Ok Tryz.prog 67 :=
  pr Tryz.func67 Tryz.ntmps67 (all_cons ⟨pMayF_ok, by kernel_rfl⟩ all_nil) indexFuncP_eq
theorem containsFuncP_ok : containsFuncP_c.Ok Tryz.prog 43 :=
  pr Tryz.func43 Tryz.ntmps43 (all_cons ⟨indexFuncP_ok, by kernel_rfl⟩ all_nil) containsFuncP_eq
theorem pMay_ok : pMay_c.Ok Tryz.prog 22 :=
  pr Tryz.func22 Tryz.ntmps22 (all_cons ⟨containsFuncP_ok, by kernel_rfl⟩ all_nil) pMay_eq
theorem pMade_ok : pMade_c.Ok Tryz.prog 23 :=
  pr Tryz.func23 Tryz.ntmps23 (all_cons ⟨spNew_ok, by kernel_rfl⟩ all_nil) pMade_eq
theorem pReach_ok : pReach_c.Ok Tryz.prog 48 :=
  pr Tryz.func48 Tryz.ntmps48 (all_cons ⟨spAdd_ok, by kernel_rfl⟩ all_nil) pReach_eq
theorem pTurn_ok : pTurn_c.Ok Tryz.prog 49 :=
  pr Tryz.func49 Tryz.ntmps49 (all_cons ⟨spLen_ok, by kernel_rfl⟩ (all_cons ⟨spClear_ok, by kernel_rfl⟩ all_nil)) pTurn_eq
theorem pHas_ok : pHas_c.Ok Tryz.prog 50 :=
  pr Tryz.func50 Tryz.ntmps50 (all_cons ⟨spVals_ok, by kernel_rfl⟩ all_nil) pHas_eq
theorem pLong_ok : pLong_c.Ok Tryz.prog 24 :=
  pr Tryz.func24 Tryz.ntmps24 (all_cons ⟨sHas_ok, by kernel_rfl⟩ (all_cons ⟨spLen_ok, by kernel_rfl⟩ (all_cons ⟨spClear_ok, by kernel_rfl⟩ (all_cons ⟨spVals_ok, by kernel_rfl⟩ (all_cons ⟨pReach_ok, by kernel_rfl⟩ (all_cons ⟨pTurn_ok, by kernel_rfl⟩ (all_cons ⟨pHas_ok, by kernel_rfl⟩ all_nil))))))) pLong_eq
theorem pLongest_ok : pLongest_c.Ok Tryz.prog 10 :=
  pr Tryz.func10 Tryz.ntmps10 (all_cons ⟨pMay_ok, by kernel_rfl⟩ (all_cons ⟨pMade_ok, by kernel_rfl⟩ (all_cons ⟨pLong_ok, by kernel_rfl⟩ all_nil))) pLongest_eq
theorem pSteps_ok : pSteps_c.Ok Tryz.prog 11 :=
  pr Tryz.func11 Tryz.ntmps11 (all_cons ⟨pMay_ok, by kernel_rfl⟩ (all_cons ⟨pMade_ok, by kernel_rfl⟩ (all_cons ⟨pLong_ok, by kernel_rfl⟩ all_nil))) pSteps_eq
theorem pAll_ok : pAll_c.Ok Tryz.prog 14 :=
  pr Tryz.func14 Tryz.ntmps14 (all_cons ⟨pMay_ok, by kernel_rfl⟩ (all_cons ⟨pMade_ok, by kernel_rfl⟩ (all_cons ⟨pLong_ok, by kernel_rfl⟩ all_nil))) pAll_eq
theorem pWhole_ok : pWhole_c.Ok Tryz.prog 15 :=
  pr Tryz.func15 Tryz.ntmps15 (all_cons ⟨pLongest_ok, by kernel_rfl⟩ all_nil) pWhole_eq
theorem may8_ok : may8_c.Ok Tryz.prog 12 :=
  pr Tryz.func12 Tryz.ntmps12 (all_cons ⟨same6_ok, by kernel_rfl⟩ (all_cons ⟨norm6_ok, by kernel_rfl⟩ all_nil)) may8_eq
theorem mark8_ok : mark8_c.Ok Tryz.prog 58 :=
  pr Tryz.func58 Tryz.ntmps58 all_nil mark8_eq
theorem begin10_ok : begin10_c.Ok Tryz.prog 27 :=
  pr Tryz.func27 Tryz.ntmps27 (all_cons ⟨mark8_ok, by kernel_rfl⟩ all_nil) begin10_eq
theorem over10_ok : over10_c.Ok Tryz.prog 30 :=
  pr Tryz.func30 Tryz.ntmps30 (all_cons ⟨has6_ok, by kernel_rfl⟩ (all_cons ⟨mark8_ok, by kernel_rfl⟩ all_nil)) over10_eq
theorem any10_ok : any10_c.Ok Tryz.prog 29 :=
  pr Tryz.func29 Tryz.ntmps29 all_nil any10_eq
theorem count10_ok : count10_c.Ok Tryz.prog 28 :=
  pr Tryz.func28 Tryz.ntmps28 all_nil count10_eq
theorem long10_ok : long10_c.Ok Tryz.prog 13 :=
  pr Tryz.func13 Tryz.ntmps13 (all_cons ⟨begin10_ok, by kernel_rfl⟩ (all_cons ⟨over10_ok, by kernel_rfl⟩ (all_cons ⟨any10_ok, by kernel_rfl⟩ (all_cons ⟨count10_ok, by kernel_rfl⟩ all_nil)))) long10_eq
theorem all10_ok : all10_c.Ok Tryz.prog 17 :=
  pr Tryz.func17 Tryz.ntmps17 (all_cons ⟨long10_ok, by kernel_rfl⟩ all_nil) all10_eq
theorem sameSpans_ok : sameSpans_c.Ok Tryz.prog 16 :=
  pr Tryz.func16 Tryz.ntmps16 all_nil sameSpans_eq
theorem composed2_ok : composed2_c.Ok Tryz.prog 143 :=
  pr Tryz.func143 Tryz.ntmps143 all_nil composed2_eq
theorem letters2_ok : letters2_c.Ok Tryz.prog 145 :=
  pr Tryz.func145 Tryz.ntmps145 all_nil letters2_eq
theorem marked2_ok : marked2_c.Ok Tryz.prog 146 :=
  pr Tryz.func146 Tryz.ntmps146 all_nil marked2_eq
theorem nth2_ok : nth2_c.Ok Tryz.prog 144 :=
  pr Tryz.func144 Tryz.ntmps144 all_nil nth2_eq
theorem few2_ok : few2_c.Ok Tryz.prog 147 :=
  pr Tryz.func147 Tryz.ntmps147 all_nil few2_eq
theorem in2_ok : in2_c.Ok Tryz.prog 129 :=
  pr Tryz.func129 Tryz.ntmps129 all_nil in2_eq
theorem pair2_ok : pair2_c.Ok Tryz.prog 128 :=
  pr Tryz.func128 Tryz.ntmps128 (all_cons ⟨composed2_ok, by kernel_rfl⟩ (all_cons ⟨letters2_ok, by kernel_rfl⟩ (all_cons ⟨marked2_ok, by kernel_rfl⟩ (all_cons ⟨nth2_ok, by kernel_rfl⟩ (all_cons ⟨few2_ok, by kernel_rfl⟩ (all_cons ⟨in2_ok, by kernel_rfl⟩ all_nil)))))) pair2_eq
theorem decomp2_ok : decomp2_c.Ok Tryz.prog 109 :=
  pr Tryz.func109 Tryz.ntmps109 (all_cons ⟨pair2_ok, by kernel_rfl⟩ all_nil) decomp2_eq
theorem class2_ok : class2_c.Ok Tryz.prog 110 :=
  pr Tryz.func110 Tryz.ntmps110 (all_cons ⟨in2_ok, by kernel_rfl⟩ all_nil) class2_eq
theorem trailing2_ok : trailing2_c.Ok Tryz.prog 111 :=
  pr Tryz.func111 Tryz.ntmps111 (all_cons ⟨in2_ok, by kernel_rfl⟩ all_nil) trailing2_eq
theorem opens2_ok : opens2_c.Ok Tryz.prog 94 :=
  pr Tryz.func94 Tryz.ntmps94 (all_cons ⟨decomp2_ok, by kernel_rfl⟩ (all_cons ⟨class2_ok, by kernel_rfl⟩ (all_cons ⟨trailing2_ok, by kernel_rfl⟩ all_nil))) opens2_eq
theorem normal3_ok : normal3_c.Ok Tryz.prog 95 :=
  pr Tryz.func95 Tryz.ntmps95 (all_cons ⟨decomp2_ok, by kernel_rfl⟩ (all_cons ⟨class2_ok, by kernel_rfl⟩ all_nil)) normal3_eq
theorem cut4_ok : cut4_c.Ok Tryz.prog 82 :=
  pr Tryz.func82 Tryz.ntmps82 (all_cons ⟨encode1_ok, by kernel_rfl⟩ (all_cons ⟨opens2_ok, by kernel_rfl⟩ (all_cons ⟨normal3_ok, by kernel_rfl⟩ all_nil))) cut4_eq
theorem all4_ok : all4_c.Ok Tryz.prog 61 :=
  pr Tryz.func61 Tryz.ntmps61 (all_cons ⟨decode1_ok, by kernel_rfl⟩ (all_cons ⟨cut4_ok, by kernel_rfl⟩ all_nil)) all4_eq
theorem length4_ok : length4_c.Ok Tryz.prog 81 :=
  pr Tryz.func81 Tryz.ntmps81 (all_cons ⟨runes1_ok, by kernel_rfl⟩ all_nil) length4_eq
theorem good4_ok : good4_c.Ok Tryz.prog 60 :=
  pr Tryz.func60 Tryz.ntmps60 (all_cons ⟨length4_ok, by kernel_rfl⟩ all_nil) good4_eq
theorem split4_ok : split4_c.Ok Tryz.prog 31 :=
  pr Tryz.func31 Tryz.ntmps31 (all_cons ⟨all4_ok, by kernel_rfl⟩ (all_cons ⟨good4_ok, by kernel_rfl⟩ all_nil)) split4_eq
theorem texts4_ok : texts4_c.Ok Tryz.prog 32 :=
  pr Tryz.func32 Tryz.ntmps32 all_nil texts4_eq
theorem here7_ok : here7_c.Ok Tryz.prog 63 :=
  pr Tryz.func63 Tryz.ntmps63 all_nil here7_eq
theorem fail7_ok : fail7_c.Ok Tryz.prog 34 :=
  pr Tryz.func34 Tryz.ntmps34 all_nil fail7_eq
theorem join7_ok : join7_c.Ok Tryz.prog 64 :=
  pr Tryz.func64 Tryz.ntmps64 all_nil join7_eq
theorem sign7_ok : sign7_c.Ok Tryz.prog 119 :=
  pr Tryz.func119 Tryz.ntmps119 all_nil sign7_eq
theorem of6_ok : of6_c.Ok Tryz.prog 117 :=
  pr Tryz.func117 Tryz.ntmps117 (all_cons ⟨runes1_ok, by kernel_rfl⟩ (all_cons ⟨good6_ok, by kernel_rfl⟩ all_nil)) of6_eq
theorem set7_ok : set7_c.Ok Tryz.prog 113 :=
  pr Tryz.func113 Tryz.ntmps113 all_nil set7_eq
theorem atom7_ok (choiceR : StT → Int → Option (StT × (List NodeT × Unit))) (hchoiceR : (choiceR_cR choiceR).Ok Tryz.prog 33) : (atom7_c choiceR).Ok Tryz.prog 97 :=
  pr Tryz.func97 Tryz.ntmps97 (all_cons ⟨here7_ok, by kernel_rfl⟩ (all_cons ⟨fail7_ok, by kernel_rfl⟩ (all_cons ⟨sign7_ok, by kernel_rfl⟩ (all_cons ⟨of6_ok, by kernel_rfl⟩ (all_cons ⟨set7_ok, by kernel_rfl⟩ (all_cons ⟨x_all6_ok, by kernel_rfl⟩ (all_cons ⟨x_class7_ok, by kernel_rfl⟩ (all_cons ⟨x_cat7_ok, by kernel_rfl⟩ (all_cons ⟨x_letter7_ok, by kernel_rfl⟩ (all_cons ⟨hchoiceR, by kernel_rfl⟩ all_nil)))))))))) (atom7_eq choiceR)
theorem part7_ok (choiceR : StT → Int → Option (StT × (List NodeT × Unit))) (hchoiceR : (choiceR_cR choiceR).Ok Tryz.prog 33) : (part7_c choiceR).Ok Tryz.prog 84 :=
  pr Tryz.func84 Tryz.ntmps84 (all_cons ⟨here7_ok, by kernel_rfl⟩ (all_cons ⟨x_count7_ok, by kernel_rfl⟩ (all_cons ⟨(atom7_ok choiceR hchoiceR), by kernel_rfl⟩ all_nil))) (part7_eq choiceR)
theorem row7_ok (choiceR : StT → Int → Option (StT × (List NodeT × Unit))) (hchoiceR : (choiceR_cR choiceR).Ok Tryz.prog 33) : (row7_c choiceR).Ok Tryz.prog 62 :=
  pr Tryz.func62 Tryz.ntmps62 (all_cons ⟨here7_ok, by kernel_rfl⟩ (all_cons ⟨join7_ok, by kernel_rfl⟩ (all_cons ⟨(part7_ok choiceR hchoiceR), by kernel_rfl⟩ all_nil))) (row7_eq choiceR)
theorem choice0_ok (choiceR : StT → Int → Option (StT × (List NodeT × Unit))) (hchoiceR : (choiceR_cR choiceR).Ok Tryz.prog 33) : (choice0_c choiceR).Ok Tryz.prog 33 :=
  pr Tryz.func33 Tryz.ntmps33 (all_cons ⟨here7_ok, by kernel_rfl⟩ (all_cons ⟨join7_ok, by kernel_rfl⟩ (all_cons ⟨(row7_ok choiceR hchoiceR), by kernel_rfl⟩ all_nil))) (choice0_eq choiceR)
theorem choiceN_ok : ∀ N, (choiceR_cR (choiceN N)).Ok Tryz.prog 33
  | 0 => fun v r h => by cases h
  | N + 1 => choice0_ok (choiceN N) (choiceN_ok N)
theorem choiceR_ok : choiceR_c.Ok Tryz.prog 33 := choiceN_ok 8
theorem parse7_ok : parse7_c.Ok Tryz.prog 18 :=
  pr Tryz.func18 Tryz.ntmps18 (all_cons ⟨split4_ok, by kernel_rfl⟩ (all_cons ⟨texts4_ok, by kernel_rfl⟩ (all_cons ⟨fail7_ok, by kernel_rfl⟩ (all_cons ⟨choiceR_ok, by kernel_rfl⟩ all_nil)))) parse7_eq
theorem may7_ok : may7_c.Ok Tryz.prog 35 :=
  pr Tryz.func35 Tryz.ntmps35 (all_cons ⟨same6_ok, by kernel_rfl⟩ (all_cons ⟨norm6_ok, by kernel_rfl⟩ all_nil)) may7_eq
theorem put8_ok : put8_c.Ok Tryz.prog 37 :=
  pr Tryz.func37 Tryz.ntmps37 all_nil put8_eq
theorem repeat8_ok : repeat8_c.Ok Tryz.prog 65 :=
  pr Tryz.func65 Tryz.ntmps65 (all_cons ⟨put8_ok, by kernel_rfl⟩ all_nil) repeat8_eq
theorem code8_ok : code8_c.Ok Tryz.prog 36 :=
  pr Tryz.func36 Tryz.ntmps36 (all_cons ⟨put8_ok, by kernel_rfl⟩ (all_cons ⟨repeat8_ok, by kernel_rfl⟩ all_nil)) code8_eq
theorem compile8_ok : compile8_c.Ok Tryz.prog 19 :=
  pr Tryz.func19 Tryz.ntmps19 (all_cons ⟨may7_ok, by kernel_rfl⟩ (all_cons ⟨put8_ok, by kernel_rfl⟩ (all_cons ⟨code8_ok, by kernel_rfl⟩ all_nil))) compile8_eq
theorem pattern8_ok : pattern8_c.Ok Tryz.prog 42 :=
  pr Tryz.func42 Tryz.ntmps42 (all_cons ⟨parse7_ok, by kernel_rfl⟩ (all_cons ⟨compile8_ok, by kernel_rfl⟩ all_nil)) pattern8_eq
theorem of10_ok : of10_c.Ok Tryz.prog 21 :=
  pr Tryz.func21 Tryz.ntmps21 (all_cons ⟨pattern8_ok, by kernel_rfl⟩ all_nil) of10_eq
theorem fixed_ok : fixed_c.Ok Tryz.prog 9 :=
  pr Tryz.func9 Tryz.ntmps9 (all_cons ⟨pLongest_ok, by kernel_rfl⟩ (all_cons ⟨pSteps_ok, by kernel_rfl⟩ (all_cons ⟨pAll_ok, by kernel_rfl⟩ (all_cons ⟨pWhole_ok, by kernel_rfl⟩ (all_cons ⟨of10_ok, by kernel_rfl⟩ all_nil))))) fixed_eq
theorem lRuns_ok : lRuns_c.Ok Tryz.prog 3 :=
  pr Tryz.func3 Tryz.ntmps3 (all_cons ⟨pLongest_ok, by kernel_rfl⟩ (all_cons ⟨pSteps_ok, by kernel_rfl⟩ (all_cons ⟨may8_ok, by kernel_rfl⟩ (all_cons ⟨long10_ok, by kernel_rfl⟩ (all_cons ⟨fixed_ok, by kernel_rfl⟩ all_nil))))) lRuns_eq
theorem lAlls_ok : lAlls_c.Ok Tryz.prog 4 :=
  pr Tryz.func4 Tryz.ntmps4 (all_cons ⟨pAll_ok, by kernel_rfl⟩ (all_cons ⟨pWhole_ok, by kernel_rfl⟩ (all_cons ⟨may8_ok, by kernel_rfl⟩ (all_cons ⟨long10_ok, by kernel_rfl⟩ (all_cons ⟨all10_ok, by kernel_rfl⟩ (all_cons ⟨sameSpans_ok, by kernel_rfl⟩ (all_cons ⟨fixed_ok, by kernel_rfl⟩ all_nil))))))) lAlls_eq
theorem lMore_ok : lMore_c.Ok Tryz.prog 6 :=
  pr Tryz.func6 Tryz.ntmps6 (all_cons ⟨pLongest_ok, by kernel_rfl⟩ (all_cons ⟨fixed_ok, by kernel_rfl⟩ all_nil)) lMore_eq
theorem lShifts_ok : lShifts_c.Ok Tryz.prog 7 :=
  pr Tryz.func7 Tryz.ntmps7 (all_cons ⟨pLongest_ok, by kernel_rfl⟩ (all_cons ⟨fixed_ok, by kernel_rfl⟩ all_nil)) lShifts_eq
theorem lApart_ok : lApart_c.Ok Tryz.prog 8 :=
  pr Tryz.func8 Tryz.ntmps8 (all_cons ⟨pLongest_ok, by kernel_rfl⟩ (all_cons ⟨pAll_ok, by kernel_rfl⟩ (all_cons ⟨fixed_ok, by kernel_rfl⟩ all_nil))) lApart_eq
end
end Go.Vt.Pk
